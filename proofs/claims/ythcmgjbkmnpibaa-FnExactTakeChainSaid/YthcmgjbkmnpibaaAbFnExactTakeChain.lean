import Derived.Test.YthcmgjbkmnpibaaProg
import Derived.Test.YthcmgjbkmnpibaaAbC
namespace Go.Ab.FnExactTakeChain
open Go.RowKit
set_option linter.unusedVariables false
set_option maxRecDepth 100000
noncomputable def tds : List (Option TD) := [
  none,
  some ⟨.other, 1, .opq, 8, false⟩,
  some ⟨.int .i64, 1, .int .i64, 8, false⟩,
  some ⟨.int .i64, 1, .int .i64, 8, false⟩,
  some ⟨.bool, 1, .bool, 1, false⟩,
  some ⟨.int .u8, 1, .int .u8, 1, false⟩,
  some ⟨.int .u8, 1, .int .u8, 1, false⟩,
  some ⟨.struct [(0, 2), (1, 3), (2, 4), (3, 6)], 4, .pair (.int .i64) (.pair (.int .i64) (.pair (.bool) (.int .u8))), 24, true⟩,
  some ⟨.struct [(0, 2), (1, 3), (2, 4), (3, 6)], 4, .pair (.int .i64) (.pair (.int .i64) (.pair (.bool) (.int .u8))), 24, true⟩,
  some ⟨.str, 1, .str, 16, false⟩,
  some ⟨.str, 1, .str, 16, false⟩,
  some ⟨.str, 1, .str, 16, false⟩,
  some ⟨.int .u64, 1, .int .u64, 8, false⟩,
  none,
  none,
  some ⟨.ptr 127, 1, .opq, 8, false⟩,
  some ⟨.ptr 130, 1, .opq, 8, false⟩,
  some ⟨.ptr 139, 1, .opq, 8, false⟩,
  some ⟨.struct [(0, 17)], 1, .opq, 8, true⟩,
  some ⟨.struct [(0, 17)], 1, .opq, 8, true⟩,
  none,
  some ⟨.int .i32, 1, .int .i32, 4, false⟩,
  some ⟨.struct [(0, 2), (1, 2), (2, 2), (3, 4)], 4, .pair (.int .i64) (.pair (.int .i64) (.pair (.int .i64) (.bool))), 32, true⟩,
  some ⟨.struct [(0, 2), (1, 2), (2, 2), (3, 4)], 4, .pair (.int .i64) (.pair (.int .i64) (.pair (.int .i64) (.bool))), 32, true⟩,
  some ⟨.other, 1, .opq, 8, false⟩,
  some ⟨.struct [(0, 2), (1, 2), (2, 2), (3, 4)], 4, .pair (.int .i64) (.pair (.int .i64) (.pair (.int .i64) (.bool))), 32, true⟩,
  some ⟨.other, 1, .opq, 8, false⟩,
  some ⟨.other, 1, .opq, 8, false⟩,
  some ⟨.struct [(0, 2), (1, 2), (2, 2), (3, 2), (4, 2), (5, 2)], 6, .pair (.int .i64) (.pair (.int .i64) (.pair (.int .i64) (.pair (.int .i64) (.pair (.int .i64) (.int .i64))))), 48, true⟩,
  some ⟨.struct [(0, 2), (1, 2), (2, 2), (3, 2), (4, 2), (5, 2)], 6, .pair (.int .i64) (.pair (.int .i64) (.pair (.int .i64) (.pair (.int .i64) (.pair (.int .i64) (.int .i64))))), 48, true⟩,
  some ⟨.other, 1, .opq, 8, false⟩,
  some ⟨.struct [(0, 2), (1, 2), (2, 2), (3, 2), (4, 2), (5, 2)], 6, .pair (.int .i64) (.pair (.int .i64) (.pair (.int .i64) (.pair (.int .i64) (.pair (.int .i64) (.int .i64))))), 48, true⟩,
  some ⟨.other, 1, .opq, 8, false⟩,
  some ⟨.other, 1, .opq, 8, false⟩,
  some ⟨.struct [(0, 2), (1, 9), (2, 25)], 6, .pair (.int .i64) (.pair (.str) (.pair (.int .i64) (.pair (.int .i64) (.pair (.int .i64) (.bool))))), 56, true⟩,
  some ⟨.struct [(0, 2), (1, 9), (2, 25)], 6, .pair (.int .i64) (.pair (.str) (.pair (.int .i64) (.pair (.int .i64) (.pair (.int .i64) (.bool))))), 56, true⟩,
  some ⟨.other, 1, .opq, 8, false⟩,
  some ⟨.other, 1, .opq, 8, false⟩,
  some ⟨.other, 1, .opq, 8, false⟩,
  some ⟨.struct [(0, 2), (1, 9), (2, 31), (8, 4)], 9, .pair (.int .i64) (.pair (.str) (.pair (.int .i64) (.pair (.int .i64) (.pair (.int .i64) (.pair (.int .i64) (.pair (.int .i64) (.pair (.int .i64) (.bool)))))))), 80, true⟩,
  some ⟨.struct [(0, 2), (1, 9), (2, 31), (8, 4)], 9, .pair (.int .i64) (.pair (.str) (.pair (.int .i64) (.pair (.int .i64) (.pair (.int .i64) (.pair (.int .i64) (.pair (.int .i64) (.pair (.int .i64) (.bool)))))))), 80, true⟩,
  some ⟨.other, 1, .opq, 8, false⟩,
  some ⟨.other, 1, .opq, 8, false⟩,
  some ⟨.other, 1, .opq, 8, false⟩,
  some ⟨.slice 75, 1, .slice (.pair (.int .i64) (.pair (.int .i64) (.bool))), 24, false⟩,
  some ⟨.struct [(0, 2), (1, 2), (2, 2), (3, 44)], 4, .pair (.int .i64) (.pair (.int .i64) (.pair (.int .i64) (.slice (.pair (.int .i64) (.pair (.int .i64) (.bool)))))), 48, true⟩,
  some ⟨.struct [(0, 2), (1, 2), (2, 2), (3, 44)], 4, .pair (.int .i64) (.pair (.int .i64) (.pair (.int .i64) (.slice (.pair (.int .i64) (.pair (.int .i64) (.bool)))))), 48, true⟩,
  some ⟨.other, 1, .opq, 8, false⟩,
  some ⟨.other, 1, .opq, 8, false⟩,
  some ⟨.other, 1, .opq, 8, false⟩,
  some ⟨.slice 94, 1, .slice (.pair (.int .i64) (.pair (.int .i64) (.bool))), 24, false⟩,
  some ⟨.other, 1, .opq, 8, false⟩,
  some ⟨.other, 1, .opq, 8, false⟩,
  some ⟨.other, 1, .opq, 8, false⟩,
  some ⟨.other, 1, .opq, 8, false⟩,
  some ⟨.other, 1, .opq, 8, false⟩,
  some ⟨.struct [(0, 2), (1, 44)], 2, .pair (.int .i64) (.slice (.pair (.int .i64) (.pair (.int .i64) (.bool)))), 32, true⟩,
  some ⟨.struct [(0, 2), (1, 44)], 2, .pair (.int .i64) (.slice (.pair (.int .i64) (.pair (.int .i64) (.bool)))), 32, true⟩,
  some ⟨.other, 1, .opq, 8, false⟩,
  some ⟨.other, 1, .opq, 8, false⟩,
  some ⟨.other, 1, .opq, 8, false⟩,
  some ⟨.other, 1, .opq, 8, false⟩,
  some ⟨.struct [(0, 2), (1, 2), (2, 44), (3, 31)], 9, .pair (.int .i64) (.pair (.int .i64) (.pair (.slice (.pair (.int .i64) (.pair (.int .i64) (.bool)))) (.pair (.int .i64) (.pair (.int .i64) (.pair (.int .i64) (.pair (.int .i64) (.pair (.int .i64) (.int .i64)))))))), 88, true⟩,
  some ⟨.struct [(0, 2), (1, 2), (2, 44), (3, 31)], 9, .pair (.int .i64) (.pair (.int .i64) (.pair (.slice (.pair (.int .i64) (.pair (.int .i64) (.bool)))) (.pair (.int .i64) (.pair (.int .i64) (.pair (.int .i64) (.pair (.int .i64) (.pair (.int .i64) (.int .i64)))))))), 88, true⟩,
  some ⟨.other, 1, .opq, 8, false⟩,
  some ⟨.other, 1, .opq, 8, false⟩,
  some ⟨.other, 1, .opq, 8, false⟩,
  some ⟨.slice 5, 1, .slice (.int .u8), 24, false⟩,
  none,
  some ⟨.other, 1, .opq, 8, false⟩,
  some ⟨.other, 1, .opq, 8, false⟩,
  some ⟨.struct [(0, 4), (1, 2)], 2, .pair (.bool) (.int .i64), 16, true⟩,
  some ⟨.struct [(0, 4), (1, 2)], 2, .pair (.bool) (.int .i64), 16, true⟩,
  some ⟨.other, 1, .opq, 8, false⟩,
  some ⟨.struct [(0, 2), (1, 2), (2, 4)], 3, .pair (.int .i64) (.pair (.int .i64) (.bool)), 24, true⟩,
  some ⟨.struct [(0, 2), (1, 2), (2, 4)], 3, .pair (.int .i64) (.pair (.int .i64) (.bool)), 24, true⟩,
  some ⟨.other, 1, .opq, 8, false⟩,
  some ⟨.other, 1, .opq, 8, false⟩,
  some ⟨.other, 1, .opq, 8, false⟩,
  some ⟨.other, 1, .opq, 8, false⟩,
  some ⟨.other, 1, .opq, 8, false⟩,
  some ⟨.other, 1, .opq, 8, false⟩,
  some ⟨.slice 2, 1, .slice (.int .i64), 24, false⟩,
  some ⟨.other, 1, .opq, 8, false⟩,
  some ⟨.other, 1, .opq, 8, false⟩,
  none,
  some ⟨.other, 1, .opq, 8, false⟩,
  some ⟨.other, 1, .opq, 8, false⟩,
  some ⟨.other, 1, .opq, 8, false⟩,
  some ⟨.other, 1, .opq, 8, false⟩,
  some ⟨.other, 1, .opq, 8, false⟩,
  some ⟨.other, 1, .opq, 8, false⟩,
  some ⟨.other, 1, .opq, 8, false⟩,
  some ⟨.other, 1, .opq, 8, false⟩,
  some ⟨.struct [(0, 2), (1, 2), (2, 4)], 3, .pair (.int .i64) (.pair (.int .i64) (.bool)), 24, true⟩,
  some ⟨.other, 1, .opq, 8, false⟩,
  some ⟨.other, 1, .opq, 8, false⟩,
  some ⟨.other, 1, .opq, 8, false⟩,
  some ⟨.other, 1, .opq, 8, false⟩,
  some ⟨.other, 1, .opq, 8, false⟩,
  some ⟨.other, 1, .opq, 8, false⟩,
  some ⟨.ptr 121, 1, .opq, 8, false⟩,
  some ⟨.other, 1, .opq, 8, false⟩,
  none,
  some ⟨.other, 1, .opq, 8, false⟩,
  some ⟨.other, 1, .opq, 8, false⟩,
  some ⟨.other, 1, .opq, 8, false⟩,
  some ⟨.other, 1, .opq, 8, false⟩,
  some ⟨.other, 1, .opq, 8, false⟩,
  some ⟨.other, 1, .opq, 8, false⟩,
  some ⟨.int .u64, 1, .int .u64, 8, false⟩,
  some ⟨.arr 4 2, 4, .pair (.int .i64) (.pair (.int .i64) (.pair (.int .i64) (.int .i64))), 32, true⟩,
  some ⟨.arr 4 2, 4, .pair (.int .i64) (.pair (.int .i64) (.pair (.int .i64) (.int .i64))), 32, true⟩,
  some ⟨.other, 1, .opq, 8, false⟩,
  none,
  some ⟨.other, 1, .opq, 8, false⟩,
  some ⟨.slice 9, 1, .slice (.str), 24, false⟩,
  some ⟨.other, 1, .opq, 8, false⟩,
  some ⟨.other, 1, .opq, 8, false⟩,
  some ⟨.int .u64, 1, .int .u64, 8, false⟩,
  some ⟨.struct [(0, 67), (1, 3), (2, 119), (3, 2)], 4, .pair (.slice (.int .u8)) (.pair (.int .i64) (.pair (.int .u64) (.int .i64))), 48, true⟩,
  some ⟨.struct [(0, 67), (1, 3), (2, 119), (3, 2)], 4, .pair (.slice (.int .u8)) (.pair (.int .i64) (.pair (.int .u64) (.int .i64))), 48, true⟩,
  some ⟨.other, 1, .opq, 8, false⟩,
  some ⟨.int .u32, 1, .int .u32, 4, false⟩,
  some ⟨.other, 1, .opq, 8, false⟩,
  some ⟨.other, 1, .opq, 8, false⟩,
  some ⟨.struct [(0, 17), (1, 17), (2, 17), (3, 9)], 4, .pair (.opq) (.pair (.opq) (.pair (.opq) (.str))), 40, true⟩,
  some ⟨.struct [(0, 17), (1, 17), (2, 17), (3, 9)], 4, .pair (.opq) (.pair (.opq) (.pair (.opq) (.str))), 40, true⟩,
  none,
  none,
  none,
  some ⟨.other, 1, .opq, 8, false⟩,
  some ⟨.int .u8, 1, .int .u8, 1, false⟩,
  some ⟨.int .u8, 1, .int .u8, 1, false⟩,
  some ⟨.other, 1, .opq, 8, false⟩,
  some ⟨.ptr 5, 1, .opq, 8, false⟩,
  some ⟨.int .i32, 1, .int .i32, 4, false⟩,
  some ⟨.int .i32, 1, .int .i32, 4, false⟩,
  some ⟨.struct [(0, 12), (1, 12), (2, 123), (3, 132), (4, 5), (5, 5), (6, 133), (7, 134), (8, 135), (9, 136), (10, 137)], 11, .pair (.int .u64) (.pair (.int .u64) (.pair (.int .u32) (.pair (.int .u8) (.pair (.int .u8) (.pair (.int .u8) (.pair (.int .u8) (.pair (.opq) (.pair (.opq) (.pair (.int .i32) (.int .i32)))))))))), 48, true⟩,
  some ⟨.struct [(0, 12), (1, 12), (2, 123), (3, 132), (4, 5), (5, 5), (6, 133), (7, 134), (8, 135), (9, 136), (10, 137)], 11, .pair (.int .u64) (.pair (.int .u64) (.pair (.int .u32) (.pair (.int .u8) (.pair (.int .u8) (.pair (.int .u8) (.pair (.int .u8) (.pair (.opq) (.pair (.opq) (.pair (.int .i32) (.int .i32)))))))))), 48, true⟩,
  some ⟨.other, 1, .opq, 8, false⟩]
noncomputable def D : TypeId → Option TD := nthD tds
theorem tdsOk : okTds Go.Proofs.Try.prog (nthD tds) 0 tds = true := by kernel_rfl
theorem dok : Dok Go.Proofs.Try.prog D := dok_of tdsOk
theorem mixed : Go.Proofs.Try.prog.follows .mixedOrders = true := by kernel_rfl
abbrev R1 : Ty := .pair (.int .i64) (.pair (.int .i64) (.bool))
/-! ### loop.example/g00038/laws.toQueue -/
noncomputable def laws_toQueue.E : Env := ⟨D, [], [], []⟩
noncomputable def laws_toQueue (a0 : Int) (a1 : Int) (a2 : Int) (a3 : Int) (a4 : Int) (a5 : Int) : Option (Int × Int × Int × Int × Int × Int × Unit) :=
  some (a0, a1, a2, a3, a4, a5, ())
noncomputable def laws_toQueue.ent : Entry := ⟨[false], [.agg [.val .bor (.int .i64), .val .bor (.int .i64), .val .bor (.int .i64), .val .bor (.int .i64), .val .bor (.int .i64), .val .bor (.int .i64)]], [.agg [.val .bor (.int .i64), .val .bor (.int .i64), .val .bor (.int .i64), .val .bor (.int .i64), .val .bor (.int .i64), .val .bor (.int .i64)]], [], fun v => laws_toQueue v.1 v.2.1 v.2.2.1 v.2.2.2.1 v.2.2.2.2.1 v.2.2.2.2.2.1⟩
theorem laws_toQueue.eq : ∀ v, evFn laws_toQueue.E Go.Proofs.Try.f16 laws_toQueue.ent.ptrs laws_toQueue.ent.ins laws_toQueue.ent.rets laws_toQueue.ent.outs v = laws_toQueue.ent.f v := by intro v; kernel_rfl
theorem laws_toQueue.fok : ∀ q ∈ ([] : List (Nat × Entry)), EntryOK Go.Proofs.Try.prog q.1 q.2 := by intro q hq; simp at hq
theorem laws_toQueue.ls : loopsOf (bodyOf Go.Proofs.Try.f16) = [] := by kernel_rfl
theorem laws_toQueue.at_ : Go.Proofs.Try.prog.funcs[16]? = some Go.Proofs.Try.f16 := by kernel_rfl
theorem laws_toQueue.bd : Go.Proofs.Try.f16.body = some (bodyOf Go.Proofs.Try.f16) := by kernel_rfl
theorem laws_toQueue.nm : Go.Proofs.Try.f16.name ≠ "runtime.NumGoroutine" := by decide
theorem laws_toQueue.ok : EntryOK Go.Proofs.Try.prog 16 laws_toQueue.ent :=
  entry_ok (E := laws_toQueue.E) (EnvOK.of dok laws_toQueue.fok) mixed laws_toQueue.at_ laws_toQueue.bd laws_toQueue.nm laws_toQueue.ls (by intro l hl; simp at hl) laws_toQueue.eq
/-! ### loop.example/g00038/spec.MemFault -/
noncomputable def spec_MemFault.E : Env := ⟨D, [], [], []⟩
noncomputable def spec_MemFault (a0 : ByteArray) : Option (Int × Unit) :=
  let x1 : Int := (Int.tmod (a0.size : Int) 256)
  let b2 : Bool := (((a0.size : Int) == 0) || (x1 != 0))
  let b3 : Bool := decide ((a0.size : Int) > 65536)
  bif (!(!((a0.size : Int) == 0)) || (!((256 : Int) == 0))) then
    bif (b2 || b3) then
      some (1, ())
    else
      some (0, ())
  else none
noncomputable def spec_MemFault.ent : Entry := ⟨[false], [.cell (.val .bor (.str))], [.cell (.val .bor (.int .i64))], [], fun v => spec_MemFault v.1⟩
theorem spec_MemFault.eq : ∀ v, evFn spec_MemFault.E Go.Proofs.Try.f47 spec_MemFault.ent.ptrs spec_MemFault.ent.ins spec_MemFault.ent.rets spec_MemFault.ent.outs v = spec_MemFault.ent.f v := by intro v; kernel_rfl
theorem spec_MemFault.fok : ∀ q ∈ ([] : List (Nat × Entry)), EntryOK Go.Proofs.Try.prog q.1 q.2 := by intro q hq; simp at hq
theorem spec_MemFault.ls : loopsOf (bodyOf Go.Proofs.Try.f47) = [] := by kernel_rfl
theorem spec_MemFault.at_ : Go.Proofs.Try.prog.funcs[47]? = some Go.Proofs.Try.f47 := by kernel_rfl
theorem spec_MemFault.bd : Go.Proofs.Try.f47.body = some (bodyOf Go.Proofs.Try.f47) := by kernel_rfl
theorem spec_MemFault.nm : Go.Proofs.Try.f47.name ≠ "runtime.NumGoroutine" := by decide
theorem spec_MemFault.ok : EntryOK Go.Proofs.Try.prog 47 spec_MemFault.ent :=
  entry_ok (E := spec_MemFault.E) (EnvOK.of dok spec_MemFault.fok) mixed spec_MemFault.at_ spec_MemFault.bd spec_MemFault.nm spec_MemFault.ls (by intro l hl; simp at hl) spec_MemFault.eq
/-! ### loop.example/g00038/spec.l01InInts -/
noncomputable def spec_l01InInts.E2 : Env := ⟨D, [], [], []⟩
noncomputable def spec_l01InInts_l2_step (rec : List Int → Int → Int → Option ((Bool × Unit) ⊕ (Unit))) (y0 : List Int) (y1 : Int) (y2 : Int) : Option ((Bool × Unit) ⊕ (Unit)) :=
  let b1 : Bool := decide (y2 < (y0.length : Int))
  bif b1 then
    let b2 : Bool := ((rd (.int .i64) y0 y2) == y1)
    bif decide (0 ≤ y2) && decide (y2 < (y0.length : Int)) then
      bif b2 then
        some (Sum.inl (true, ()))
      else
        rec y0 y1 (wrap64 (y2 + 1))
    else none
  else
    some (Sum.inr ())
noncomputable def spec_l01InInts_l2 : Nat → List Int → Int → Int → Option ((Bool × Unit) ⊕ (Unit))
  | 0 => fun _ _ _ => none
  | n + 1 => spec_l01InInts_l2_step (spec_l01InInts_l2 n)
noncomputable def spec_l01InInts_l2.ent : LEntry := ⟨(.cell (.val .bor (.slice (.int .i64))) :: (.cell (.val .bor (.int .i64)) :: (sk 3 (.cell (.val .bor (.int .i64)) :: (sk 12 []))))), rk 18 [], [], [], [⟨none, sk 4 (.cell (.val .bor (.bool)) :: (sk 13 [])), rk 18 [], [], []⟩, ⟨some 0, sk 18 [], rk 18 [], [], []⟩], fun v => spec_l01InInts_l2 K0 v.1 v.2.1 v.2.2.1⟩
theorem spec_l01InInts_l2.eq : ∀ rec v, evStep spec_l01InInts.E2 (bodyAt 2 Go.Proofs.Try.f52) spec_l01InInts_l2.ent.ins spec_l01InInts_l2.ent.rts spec_l01InInts_l2.ent.hm spec_l01InInts_l2.ent.nl spec_l01InInts_l2.ent.xs rec v = spec_l01InInts_l2_step (fun c0 c1 c2 => rec (c0, c1, c2, ())) v.1 v.2.1 v.2.2.1 := by intro rec v; kernel_rfl
noncomputable def spec_l01InInts.E : Env := ⟨D, [], [], [(2, spec_l01InInts_l2.ent)]⟩
noncomputable def spec_l01InInts (a0 : List Int) (a1 : Int) : Option (Bool × Unit) :=
  (spec_l01InInts_l2 K0 a0 a1 0).bind fun o3 =>
  match o3 with
  | Sum.inl p4 =>
    some (p4.1, ())
  | Sum.inr p5 =>
    some (false, ())
noncomputable def spec_l01InInts.ent : Entry := ⟨[false, false], [.cell (.val .bor (.slice (.int .i64))), .cell (.val .bor (.int .i64))], [.cell (.val .bor (.bool))], [], fun v => spec_l01InInts v.1 v.2.1⟩
theorem spec_l01InInts.eq : ∀ v, evFn spec_l01InInts.E Go.Proofs.Try.f52 spec_l01InInts.ent.ptrs spec_l01InInts.ent.ins spec_l01InInts.ent.rets spec_l01InInts.ent.outs v = spec_l01InInts.ent.f v := by intro v; kernel_rfl
theorem spec_l01InInts.fok : ∀ q ∈ ([] : List (Nat × Entry)), EntryOK Go.Proofs.Try.prog q.1 q.2 := by intro q hq; simp at hq
theorem spec_l01InInts_l2.it : ∀ n v, iter (evStep spec_l01InInts.E2 (bodyAt 2 Go.Proofs.Try.f52) spec_l01InInts_l2.ent.ins spec_l01InInts_l2.ent.rts spec_l01InInts_l2.ent.hm spec_l01InInts_l2.ent.nl spec_l01InInts_l2.ent.xs) n v = spec_l01InInts_l2 n v.1 v.2.1 v.2.2.1 := by
  intro n
  induction n with
  | zero => intro v; rfl
  | succ n ih =>
    intro v
    show (evStep spec_l01InInts.E2 (bodyAt 2 Go.Proofs.Try.f52) spec_l01InInts_l2.ent.ins spec_l01InInts_l2.ent.rts spec_l01InInts_l2.ent.hm spec_l01InInts_l2.ent.nl spec_l01InInts_l2.ent.xs) (iter (evStep spec_l01InInts.E2 (bodyAt 2 Go.Proofs.Try.f52) spec_l01InInts_l2.ent.ins spec_l01InInts_l2.ent.rts spec_l01InInts_l2.ent.hm spec_l01InInts_l2.ent.nl spec_l01InInts_l2.ent.xs) n) v = _
    rw [spec_l01InInts_l2.eq, show (fun c0 c1 c2 => iter (evStep spec_l01InInts.E2 (bodyAt 2 Go.Proofs.Try.f52) spec_l01InInts_l2.ent.ins spec_l01InInts_l2.ent.rts spec_l01InInts_l2.ent.hm spec_l01InInts_l2.ent.nl spec_l01InInts_l2.ent.xs) n (c0, c1, c2, ())) = spec_l01InInts_l2 n from by funext c0 c1 c2; exact ih _]
    rfl
theorem spec_l01InInts_l2.fr : firstRegion (bodyAt 2 Go.Proofs.Try.f52) = 2 := by kernel_rfl
theorem spec_l01InInts_l2.ls : loopsOf (bodyAt 2 Go.Proofs.Try.f52) = [] := by kernel_rfl
theorem spec_l01InInts_l2.lok {E : Env} (hpin : spec_l01InInts.E2.pin = E.pin) (hfind : find 2 E.loops = some spec_l01InInts_l2.ent) : LoopOK Go.Proofs.Try.prog E (bodyAt 2 Go.Proofs.Try.f52) :=
  loop_of (E1 := spec_l01InInts.E2) (EnvOK.of dok spec_l01InInts.fok) mixed hpin (by rw [spec_l01InInts_l2.fr]; exact hfind) spec_l01InInts_l2.ls (by intro l hl; simp at hl) (fun v => (spec_l01InInts_l2.it K0 v).symm)
theorem spec_l01InInts.ls : loopsOf (bodyOf Go.Proofs.Try.f52) = [bodyAt 2 Go.Proofs.Try.f52] := by kernel_rfl
theorem spec_l01InInts.at_ : Go.Proofs.Try.prog.funcs[52]? = some Go.Proofs.Try.f52 := by kernel_rfl
theorem spec_l01InInts.bd : Go.Proofs.Try.f52.body = some (bodyOf Go.Proofs.Try.f52) := by kernel_rfl
theorem spec_l01InInts.nm : Go.Proofs.Try.f52.name ≠ "runtime.NumGoroutine" := by decide
theorem spec_l01InInts.ok : EntryOK Go.Proofs.Try.prog 52 spec_l01InInts.ent :=
  entry_ok (E := spec_l01InInts.E) (EnvOK.of dok spec_l01InInts.fok) mixed spec_l01InInts.at_ spec_l01InInts.bd spec_l01InInts.nm spec_l01InInts.ls (by intro l hl; simp only [List.mem_singleton] at hl; subst hl; exact spec_l01InInts_l2.lok rfl rfl) spec_l01InInts.eq
/-! ### loop.example/g00038/spec.l10In -/
noncomputable def spec_l10In.E : Env := ⟨D, [], [], []⟩
noncomputable def spec_l10In (a0 : ByteArray) (a1 : Int) (a2 : Int) : Option (Bool × Unit) :=
  let b1 : Bool := (decide (a1 ≥ 0) && decide (a2 ≥ 0))
  let b2 : Bool := decide (a1 ≤ (a0.size : Int))
  let x3 : Int := (wrap64 ((a0.size : Int) - a1))
  let b4 : Bool := ((b1 && b2) && decide (a2 ≤ x3))
  some (b4, ())
noncomputable def spec_l10In.ent : Entry := ⟨[false, false, false], [.cell (.val .bor (.str)), .cell (.val .bor (.int .i64)), .cell (.val .bor (.int .i64))], [.cell (.val .bor (.bool))], [], fun v => spec_l10In v.1 v.2.1 v.2.2.1⟩
theorem spec_l10In.eq : ∀ v, evFn spec_l10In.E Go.Proofs.Try.f48 spec_l10In.ent.ptrs spec_l10In.ent.ins spec_l10In.ent.rets spec_l10In.ent.outs v = spec_l10In.ent.f v := by intro v; kernel_rfl
theorem spec_l10In.fok : ∀ q ∈ ([] : List (Nat × Entry)), EntryOK Go.Proofs.Try.prog q.1 q.2 := by intro q hq; simp at hq
theorem spec_l10In.ls : loopsOf (bodyOf Go.Proofs.Try.f48) = [] := by kernel_rfl
theorem spec_l10In.at_ : Go.Proofs.Try.prog.funcs[48]? = some Go.Proofs.Try.f48 := by kernel_rfl
theorem spec_l10In.bd : Go.Proofs.Try.f48.body = some (bodyOf Go.Proofs.Try.f48) := by kernel_rfl
theorem spec_l10In.nm : Go.Proofs.Try.f48.name ≠ "runtime.NumGoroutine" := by decide
theorem spec_l10In.ok : EntryOK Go.Proofs.Try.prog 48 spec_l10In.ent :=
  entry_ok (E := spec_l10In.E) (EnvOK.of dok spec_l10In.fok) mixed spec_l10In.at_ spec_l10In.bd spec_l10In.nm spec_l10In.ls (by intro l hl; simp at hl) spec_l10In.eq
/-! ### loop.example/g00038/spec.QueueFault -/
noncomputable def spec_QueueFault.E : Env := ⟨D, [], [(47, spec_MemFault.ent), (52, spec_l01InInts.ent), (48, spec_l10In.ent)], []⟩
noncomputable def spec_QueueFault (a0 : ByteArray) (a1 : Int) (a2 : Int) (a3 : Int) (a4 : Int) (a5 : Int) (a6 : Int) : Option (Int × Unit) :=
  (spec_MemFault a0).bind fun r1 =>
  let l2 : List Int := ([1, 2, 4, 8, 16] : List Int)
  let r3 : Bool × Unit := (spec_l01InInts l2 a1).getD (false, ())
  let b4 : Bool := (((r1.1 != 0) || !r3.1) || decide (a5 < 0))
  let b5 : Bool := (b4 || decide (a5 > 65535))
  let b6 : Bool := ((b5 || decide (a6 < 0)) || decide (a6 > 65535))
  bif (!(!(r1.1 != 0)) || (spec_l01InInts l2 a1).isSome) then
    bif b6 then
      some (1, ())
    else
      let b7 : Bool := (((Int.tmod a2 4) != 0) || ((Int.tmod a3 4) != 0))
      let b8 : Bool := (b7 || ((Int.tmod a4 4) != 0))
      let x9 : Int := (wrap64 ((16 : Int) * a1))
      let r10 : Bool × Unit := (spec_l10In a0 a2 x9).getD (false, ())
      let x11 : Int := (wrap64 ((4 : Int) * a1))
      let x12 : Int := (wrap64 ((8 : Int) + x11))
      let r13 : Bool × Unit := (spec_l10In a0 a3 x12).getD (false, ())
      let b14 : Bool := ((b8 || !r10.1) || !r13.1)
      let x15 : Int := (wrap64 ((8 : Int) * a1))
      let x16 : Int := (wrap64 ((8 : Int) + x15))
      let r17 : Bool × Unit := (spec_l10In a0 a4 x16).getD (false, ())
      bif (!((4 : Int) == 0)) && ((!(!((Int.tmod a2 4) != 0)) || (!((4 : Int) == 0))) && ((!(!b7) || (!((4 : Int) == 0))) && ((!(!b8) || (spec_l10In a0 a2 x9).isSome) && ((!(!(b8 || !r10.1)) || (spec_l10In a0 a3 x12).isSome) && (!(!b14) || (spec_l10In a0 a4 x16).isSome))))) then
        bif (b14 || !r17.1) then
          some (1, ())
        else
          some (0, ())
      else none
  else none
noncomputable def spec_QueueFault.ent : Entry := ⟨[false, false], [.cell (.val .bor (.str)), .agg [.val .bor (.int .i64), .val .bor (.int .i64), .val .bor (.int .i64), .val .bor (.int .i64), .val .bor (.int .i64), .val .bor (.int .i64)]], [.cell (.val .bor (.int .i64))], [], fun v => spec_QueueFault v.1 v.2.1 v.2.2.1 v.2.2.2.1 v.2.2.2.2.1 v.2.2.2.2.2.1 v.2.2.2.2.2.2.1⟩
theorem spec_QueueFault.eq : ∀ v, evFn spec_QueueFault.E Go.Proofs.Try.f15 spec_QueueFault.ent.ptrs spec_QueueFault.ent.ins spec_QueueFault.ent.rets spec_QueueFault.ent.outs v = spec_QueueFault.ent.f v := by intro v; kernel_rfl
theorem spec_QueueFault.fok : ∀ q ∈ [((47 : Nat), spec_MemFault.ent), ((52 : Nat), spec_l01InInts.ent), ((48 : Nat), spec_l10In.ent)], EntryOK Go.Proofs.Try.prog q.1 q.2 := by
  intro q hq
  simp only [List.mem_cons, List.mem_nil_iff, or_false] at hq
  rcases hq with rfl | rfl | rfl
  · exact spec_MemFault.ok
  · exact spec_l01InInts.ok
  · exact spec_l10In.ok
theorem spec_QueueFault.ls : loopsOf (bodyOf Go.Proofs.Try.f15) = [] := by kernel_rfl
theorem spec_QueueFault.at_ : Go.Proofs.Try.prog.funcs[15]? = some Go.Proofs.Try.f15 := by kernel_rfl
theorem spec_QueueFault.bd : Go.Proofs.Try.f15.body = some (bodyOf Go.Proofs.Try.f15) := by kernel_rfl
theorem spec_QueueFault.nm : Go.Proofs.Try.f15.name ≠ "runtime.NumGoroutine" := by decide
theorem spec_QueueFault.ok : EntryOK Go.Proofs.Try.prog 15 spec_QueueFault.ent :=
  entry_ok (E := spec_QueueFault.E) (EnvOK.of dok spec_QueueFault.fok) mixed spec_QueueFault.at_ spec_QueueFault.bd spec_QueueFault.nm spec_QueueFault.ls (by intro l hl; simp at hl) spec_QueueFault.eq
/-! ### loop.example/g00038/spec.l01Word -/
noncomputable def spec_l01Word.E : Env := ⟨D, [], [], []⟩
noncomputable def spec_l01Word (a0 : ByteArray) (a1 : Int) : Option (Int × Unit) :=
  let x1 : Int := (wrap64 (bt a0 (wrap64 (a1 + 1))))
  let x2 : Int := (wrap64 ((wrap64 (bt a0 a1)) + shl .i64 x1 8))
  let x3 : Int := (wrap64 (bt a0 (wrap64 (a1 + 2))))
  let x4 : Int := (wrap64 (x2 + shl .i64 x3 16))
  let x5 : Int := (wrap64 (bt a0 (wrap64 (a1 + 3))))
  let x6 : Int := (wrap64 (x4 + shl .i64 x5 24))
  bif (decide (0 ≤ a1) && decide (a1 < (a0.size : Int))) && ((decide (0 ≤ (wrap64 (a1 + 1))) && decide ((wrap64 (a1 + 1)) < (a0.size : Int))) && ((decide (0 ≤ (8 : Int))) && ((decide (0 ≤ (wrap64 (a1 + 2))) && decide ((wrap64 (a1 + 2)) < (a0.size : Int))) && ((decide (0 ≤ (16 : Int))) && ((decide (0 ≤ (wrap64 (a1 + 3))) && decide ((wrap64 (a1 + 3)) < (a0.size : Int))) && (decide (0 ≤ (24 : Int)))))))) then
    some (x6, ())
  else none
noncomputable def spec_l01Word.ent : Entry := ⟨[false, false], [.cell (.val .bor (.str)), .cell (.val .bor (.int .i64))], [.cell (.val .bor (.int .i64))], [], fun v => spec_l01Word v.1 v.2.1⟩
theorem spec_l01Word.eq : ∀ v, evFn spec_l01Word.E Go.Proofs.Try.f60 spec_l01Word.ent.ptrs spec_l01Word.ent.ins spec_l01Word.ent.rets spec_l01Word.ent.outs v = spec_l01Word.ent.f v := by intro v; kernel_rfl
theorem spec_l01Word.fok : ∀ q ∈ ([] : List (Nat × Entry)), EntryOK Go.Proofs.Try.prog q.1 q.2 := by intro q hq; simp at hq
theorem spec_l01Word.ls : loopsOf (bodyOf Go.Proofs.Try.f60) = [] := by kernel_rfl
theorem spec_l01Word.at_ : Go.Proofs.Try.prog.funcs[60]? = some Go.Proofs.Try.f60 := by kernel_rfl
theorem spec_l01Word.bd : Go.Proofs.Try.f60.body = some (bodyOf Go.Proofs.Try.f60) := by kernel_rfl
theorem spec_l01Word.nm : Go.Proofs.Try.f60.name ≠ "runtime.NumGoroutine" := by decide
theorem spec_l01Word.ok : EntryOK Go.Proofs.Try.prog 60 spec_l01Word.ent :=
  entry_ok (E := spec_l01Word.E) (EnvOK.of dok spec_l01Word.fok) mixed spec_l01Word.at_ spec_l01Word.bd spec_l01Word.nm spec_l01Word.ls (by intro l hl; simp at hl) spec_l01Word.eq
/-! ### loop.example/g00038/spec.l01Mod -/
noncomputable def spec_l01Mod.E : Env := ⟨D, [], [], []⟩
noncomputable def spec_l01Mod (a0 : Int) (a1 : Int) : Option (Int × Unit) :=
  bif !(a1 == 0) then
    let b1 : Bool := decide ((Int.tmod a0 a1) < 0)
    let x2 : Int := (wrap64 ((Int.tmod a0 a1) + a1))
    let x3 : Int := (bif b1 then x2 else (Int.tmod a0 a1))
    some (x3, ())
  else none
noncomputable def spec_l01Mod.ent : Entry := ⟨[false, false], [.cell (.val .bor (.int .i64)), .cell (.val .bor (.int .i64))], [.cell (.val .bor (.int .i64))], [], fun v => spec_l01Mod v.1 v.2.1⟩
theorem spec_l01Mod.eq : ∀ v, evFn spec_l01Mod.E Go.Proofs.Try.f77 spec_l01Mod.ent.ptrs spec_l01Mod.ent.ins spec_l01Mod.ent.rets spec_l01Mod.ent.outs v = spec_l01Mod.ent.f v := by intro v; kernel_rfl
theorem spec_l01Mod.fok : ∀ q ∈ ([] : List (Nat × Entry)), EntryOK Go.Proofs.Try.prog q.1 q.2 := by intro q hq; simp at hq
theorem spec_l01Mod.ls : loopsOf (bodyOf Go.Proofs.Try.f77) = [] := by kernel_rfl
theorem spec_l01Mod.at_ : Go.Proofs.Try.prog.funcs[77]? = some Go.Proofs.Try.f77 := by kernel_rfl
theorem spec_l01Mod.bd : Go.Proofs.Try.f77.body = some (bodyOf Go.Proofs.Try.f77) := by kernel_rfl
theorem spec_l01Mod.nm : Go.Proofs.Try.f77.name ≠ "runtime.NumGoroutine" := by decide
theorem spec_l01Mod.ok : EntryOK Go.Proofs.Try.prog 77 spec_l01Mod.ent :=
  entry_ok (E := spec_l01Mod.E) (EnvOK.of dok spec_l01Mod.fok) mixed spec_l01Mod.at_ spec_l01Mod.bd spec_l01Mod.nm spec_l01Mod.ls (by intro l hl; simp at hl) spec_l01Mod.eq
/-! ### loop.example/g00038/spec.l10Buf -/
noncomputable def spec_l10Buf.E : Env := ⟨D, [], [(48, spec_l10In.ent)], []⟩
noncomputable def spec_l10Buf (a0 : ByteArray) (a1 : List (Int × Int × Bool)) (a2 : Int) (a3 : Int) (a4 : Bool) : Option (Int × Unit) :=
  (spec_l10In a0 a2 a3).bind fun r1 =>
  bif !r1.1 then
    some (2, ())
  else
    let b2 : Bool := decide ((a1.length : Int) > 0)
    let x3 : Int := (wrap64 ((a1.length : Int) - 1))
    let e4 : Int × Int × Bool := rd R1 a1 x3
    bif (!b2 || (decide (0 ≤ x3) && decide (x3 < (a1.length : Int)))) then
      bif ((b2 && e4.2.2) && !a4) then
        some (6, ())
      else
        some (0, ())
    else none
noncomputable def spec_l10Buf.ent : Entry := ⟨[false, false, false], [.cell (.val .bor (.str)), .cell (.val .bor (.slice (.pair (.int .i64) (.pair (.int .i64) (.bool))))), .agg [.val .bor (.int .i64), .val .bor (.int .i64), .val .bor (.bool)]], [.cell (.val .bor (.int .i64))], [], fun v => spec_l10Buf v.1 v.2.1 v.2.2.1 v.2.2.2.1 v.2.2.2.2.1⟩
theorem spec_l10Buf.eq : ∀ v, evFn spec_l10Buf.E Go.Proofs.Try.f64 spec_l10Buf.ent.ptrs spec_l10Buf.ent.ins spec_l10Buf.ent.rets spec_l10Buf.ent.outs v = spec_l10Buf.ent.f v := by intro v; kernel_rfl
theorem spec_l10Buf.fok : ∀ q ∈ [((48 : Nat), spec_l10In.ent)], EntryOK Go.Proofs.Try.prog q.1 q.2 := by
  intro q hq
  simp only [List.mem_cons, List.mem_nil_iff, or_false] at hq
  rcases hq with rfl
  · exact spec_l10In.ok
theorem spec_l10Buf.ls : loopsOf (bodyOf Go.Proofs.Try.f64) = [] := by kernel_rfl
theorem spec_l10Buf.at_ : Go.Proofs.Try.prog.funcs[64]? = some Go.Proofs.Try.f64 := by kernel_rfl
theorem spec_l10Buf.bd : Go.Proofs.Try.f64.body = some (bodyOf Go.Proofs.Try.f64) := by kernel_rfl
theorem spec_l10Buf.nm : Go.Proofs.Try.f64.name ≠ "runtime.NumGoroutine" := by decide
theorem spec_l10Buf.ok : EntryOK Go.Proofs.Try.prog 64 spec_l10Buf.ent :=
  entry_ok (E := spec_l10Buf.E) (EnvOK.of dok spec_l10Buf.fok) mixed spec_l10Buf.at_ spec_l10Buf.bd spec_l10Buf.nm spec_l10Buf.ls (by intro l hl; simp at hl) spec_l10Buf.eq
/-! ### loop.example/g00038/spec.ReadChain -/
noncomputable def spec_ReadChain.E11 : Env := ⟨D, [], [(15, spec_QueueFault.ent), (60, spec_l01Word.ent), (48, spec_l10In.ent), (64, spec_l10Buf.ent)], []⟩
noncomputable def spec_ReadChain_l11_step (rec : ByteArray → Int → Int → Bool → Int → Int → Int → Int → (List (Int × Int × Bool)) → Option ((Int × List (Int × Int × Bool) × Unit))) (y0 : ByteArray) (y1 : Int) (y2 : Int) (y3 : Bool) (y4 : Int) (y5 : Int) (y6 : Int) (y7 : Int) (y8 : List (Int × Int × Bool)) : Option ((Int × List (Int × Int × Bool) × Unit)) :=
  let b25 : Bool := (decide (y4 < 0) || decide (y4 ≥ y2))
  bif b25 then
    some (5, [], ())
  else
    let b26 : Bool := decide ((wrap64 (y5 + 1)) > y2)
    bif b26 then
      some (9, [], ())
    else
      let x27 : Int := (wrap64 ((16 : Int) * y4))
      (spec_l01Word y0 (wrap64 (y1 + x27))).bind fun r28 =>
      let x29 : Int := (wrap64 ((wrap64 (y1 + x27)) + 4))
      (spec_l01Word y0 x29).bind fun r30 =>
      let x31 : Int := (wrap64 ((wrap64 (y1 + x27)) + 8))
      (spec_l01Word y0 x31).bind fun r32 =>
      let x33 : Int := (wrap64 ((wrap64 (y1 + x27)) + 12))
      (spec_l01Word y0 x33).bind fun r34 =>
      let b35 : Bool := ((bits .and .i64 r32.1 2) != 0)
      let b36 : Bool := ((bits .and .i64 r32.1 4) != 0)
      bif b36 then
        let b37 : Bool := ((bits .and .i64 r32.1 1) != 0)
        let b38 : Bool := ((Int.tmod r30.1 16) != 0)
        let b39 : Bool := (((y3 || b37) || b38) || decide (r30.1 < 16))
        let b40 : Bool := (b39 || decide (r30.1 > 256))
        let b41 : Bool := ((Int.tmod r28.1 4) != 0)
        bif (!(!(y3 || b37)) || (!((16 : Int) == 0))) && (!(!b40) || (!((4 : Int) == 0))) then
          bif (b40 || b41) then
            some (3, [], ())
          else
            (spec_l10In y0 r28.1 r30.1).bind fun r42 =>
            bif !r42.1 then
              some (2, [], ())
            else
              let x43 : Int := (wrap64 (Int.tdiv r30.1 16))
              bif !((16 : Int) == 0) then
                rec y0 r28.1 x43 true 0 0 y6 y7 y8
              else none
        else none
      else
        (spec_l10Buf y0 y8 r28.1 r30.1 b35).bind fun r44 =>
        bif (r44.1 != 0) then
          some (r44.1, [], ())
        else
          let l45 : List (Int × Int × Bool) := (y8 ++ [(r28.1, r30.1, b35)])
          bif roomy ((y8.length : Int) + ([(r28.1, r30.1, b35)].length : Int)) 24 then
            let b46 : Bool := ((bits .and .i64 r32.1 1) == 0)
            bif b46 then
              some (y7, l45, ())
            else
              rec y0 y1 y2 y3 r34.1 (wrap64 (y5 + 1)) y6 y7 l45
          else none
noncomputable def spec_ReadChain_l11 : Nat → ByteArray → Int → Int → Bool → Int → Int → Int → Int → (List (Int × Int × Bool)) → Option ((Int × List (Int × Int × Bool) × Unit))
  | 0 => fun _ _ _ _ _ _ _ _ _ => none
  | n + 1 => spec_ReadChain_l11_step (spec_ReadChain_l11 n)
noncomputable def spec_ReadChain_l11.ent : LEntry := ⟨(.cell (.val .bor (.str)) :: (sk 5 (.cell (.fix (.ptr 6 0)) :: (.cell (.fix (.ptr 7 0)) :: (.cell (.val .bor (.int .i64)) :: (.cell (.val .bor (.int .i64)) :: (.cell (.val .bor (.bool)) :: (.cell (.val .bor (.int .i64)) :: (.cell (.val .bor (.int .i64)) :: (sk 133 [])))))))))), rk 6 ([.val .bor (.int .i64), .fix (.nil)] :: ([.val .bor (.int .i64), .val .own (.slice (.pair (.int .i64) (.pair (.int .i64) (.bool))))] :: (rk 138 []))), [], [(7, 1, true, .pair (.int .i64) (.pair (.int .i64) (.bool)))], [⟨none, sk 6 (.cell (.fix (.ptr 6 0)) :: (sk 139 [])), rk 6 ([.val .bor (.int .i64), .val .own (.slice (.pair (.int .i64) (.pair (.int .i64) (.bool))))] :: (rk 139 [])), [], [(6, 1, true, .pair (.int .i64) (.pair (.int .i64) (.bool)))]⟩], fun v => spec_ReadChain_l11 K0 v.1 v.2.1 v.2.2.1 v.2.2.2.1 v.2.2.2.2.1 v.2.2.2.2.2.1 v.2.2.2.2.2.2.1 v.2.2.2.2.2.2.2.1 v.2.2.2.2.2.2.2.2.1⟩
theorem spec_ReadChain_l11.eq : ∀ rec v, evStep spec_ReadChain.E11 (bodyAt 11 Go.Proofs.Try.f34) spec_ReadChain_l11.ent.ins spec_ReadChain_l11.ent.rts spec_ReadChain_l11.ent.hm spec_ReadChain_l11.ent.nl spec_ReadChain_l11.ent.xs rec v = spec_ReadChain_l11_step (fun c0 c1 c2 c3 c4 c5 c6 c7 c8 => rec (c0, c1, c2, c3, c4, c5, c6, c7, c8, ())) v.1 v.2.1 v.2.2.1 v.2.2.2.1 v.2.2.2.2.1 v.2.2.2.2.2.1 v.2.2.2.2.2.2.1 v.2.2.2.2.2.2.2.1 v.2.2.2.2.2.2.2.2.1 := by intro rec v; kernel_rfl
noncomputable def spec_ReadChain.E : Env := ⟨D, [], [(15, spec_QueueFault.ent), (60, spec_l01Word.ent), (48, spec_l10In.ent), (64, spec_l10Buf.ent)], [(11, spec_ReadChain_l11.ent)]⟩
noncomputable def spec_ReadChain (a0 : ByteArray) (a1 : Int) (a2 : Int) (a3 : Int) (a4 : Int) (a5 : Int) (a6 : Int) (a7 : Int) : Option (Int × List (Int × Int × Bool) × Unit) :=
  let b1 : Bool := decide ((a0.size : Int) > 65536)
  bif b1 then
    some (2, [], ())
  else
    (spec_QueueFault a0 a1 a2 a3 a4 a5 a6).bind fun r2 =>
    let b3 : Bool := ((r2.1 != 0) || decide (a7 < 0))
    bif (b3 || decide (a7 ≥ a1)) then
      some (1, [], ())
    else
      (spec_ReadChain_l11 K0 a0 a2 a1 false a7 0 0 0 []).bind fun o47 =>
      some (o47.1, o47.2.1, ())
noncomputable def spec_ReadChain.ent : Entry := ⟨[false, false, false], [.cell (.val .bor (.str)), .agg [.val .bor (.int .i64), .val .bor (.int .i64), .val .bor (.int .i64), .val .bor (.int .i64), .val .bor (.int .i64), .val .bor (.int .i64)], .cell (.val .bor (.int .i64))], [.agg [.val .bor (.int .i64), .val .own (.slice (.pair (.int .i64) (.pair (.int .i64) (.bool))))]], [], fun v => spec_ReadChain v.1 v.2.1 v.2.2.1 v.2.2.2.1 v.2.2.2.2.1 v.2.2.2.2.2.1 v.2.2.2.2.2.2.1 v.2.2.2.2.2.2.2.1⟩
theorem spec_ReadChain.eq : ∀ v, evFn spec_ReadChain.E Go.Proofs.Try.f34 spec_ReadChain.ent.ptrs spec_ReadChain.ent.ins spec_ReadChain.ent.rets spec_ReadChain.ent.outs v = spec_ReadChain.ent.f v := by intro v; kernel_rfl
theorem spec_ReadChain.fok : ∀ q ∈ [((15 : Nat), spec_QueueFault.ent), ((60 : Nat), spec_l01Word.ent), ((48 : Nat), spec_l10In.ent), ((64 : Nat), spec_l10Buf.ent)], EntryOK Go.Proofs.Try.prog q.1 q.2 := by
  intro q hq
  simp only [List.mem_cons, List.mem_nil_iff, or_false] at hq
  rcases hq with rfl | rfl | rfl | rfl
  · exact spec_QueueFault.ok
  · exact spec_l01Word.ok
  · exact spec_l10In.ok
  · exact spec_l10Buf.ok
theorem spec_ReadChain_l11.it : ∀ n v, iter (evStep spec_ReadChain.E11 (bodyAt 11 Go.Proofs.Try.f34) spec_ReadChain_l11.ent.ins spec_ReadChain_l11.ent.rts spec_ReadChain_l11.ent.hm spec_ReadChain_l11.ent.nl spec_ReadChain_l11.ent.xs) n v = spec_ReadChain_l11 n v.1 v.2.1 v.2.2.1 v.2.2.2.1 v.2.2.2.2.1 v.2.2.2.2.2.1 v.2.2.2.2.2.2.1 v.2.2.2.2.2.2.2.1 v.2.2.2.2.2.2.2.2.1 := by
  intro n
  induction n with
  | zero => intro v; rfl
  | succ n ih =>
    intro v
    show (evStep spec_ReadChain.E11 (bodyAt 11 Go.Proofs.Try.f34) spec_ReadChain_l11.ent.ins spec_ReadChain_l11.ent.rts spec_ReadChain_l11.ent.hm spec_ReadChain_l11.ent.nl spec_ReadChain_l11.ent.xs) (iter (evStep spec_ReadChain.E11 (bodyAt 11 Go.Proofs.Try.f34) spec_ReadChain_l11.ent.ins spec_ReadChain_l11.ent.rts spec_ReadChain_l11.ent.hm spec_ReadChain_l11.ent.nl spec_ReadChain_l11.ent.xs) n) v = _
    rw [spec_ReadChain_l11.eq, show (fun c0 c1 c2 c3 c4 c5 c6 c7 c8 => iter (evStep spec_ReadChain.E11 (bodyAt 11 Go.Proofs.Try.f34) spec_ReadChain_l11.ent.ins spec_ReadChain_l11.ent.rts spec_ReadChain_l11.ent.hm spec_ReadChain_l11.ent.nl spec_ReadChain_l11.ent.xs) n (c0, c1, c2, c3, c4, c5, c6, c7, c8, ())) = spec_ReadChain_l11 n from by funext c0 c1 c2 c3 c4 c5 c6 c7 c8; exact ih _]
    rfl
theorem spec_ReadChain_l11.fr : firstRegion (bodyAt 11 Go.Proofs.Try.f34) = 11 := by kernel_rfl
theorem spec_ReadChain_l11.ls : loopsOf (bodyAt 11 Go.Proofs.Try.f34) = [] := by kernel_rfl
theorem spec_ReadChain_l11.lok {E : Env} (hpin : spec_ReadChain.E11.pin = E.pin) (hfind : find 11 E.loops = some spec_ReadChain_l11.ent) : LoopOK Go.Proofs.Try.prog E (bodyAt 11 Go.Proofs.Try.f34) :=
  loop_of (E1 := spec_ReadChain.E11) (EnvOK.of dok spec_ReadChain.fok) mixed hpin (by rw [spec_ReadChain_l11.fr]; exact hfind) spec_ReadChain_l11.ls (by intro l hl; simp at hl) (fun v => (spec_ReadChain_l11.it K0 v).symm)
theorem spec_ReadChain.ls : loopsOf (bodyOf Go.Proofs.Try.f34) = [bodyAt 11 Go.Proofs.Try.f34] := by kernel_rfl
theorem spec_ReadChain.at_ : Go.Proofs.Try.prog.funcs[34]? = some Go.Proofs.Try.f34 := by kernel_rfl
theorem spec_ReadChain.bd : Go.Proofs.Try.f34.body = some (bodyOf Go.Proofs.Try.f34) := by kernel_rfl
theorem spec_ReadChain.nm : Go.Proofs.Try.f34.name ≠ "runtime.NumGoroutine" := by decide
theorem spec_ReadChain.ok : EntryOK Go.Proofs.Try.prog 34 spec_ReadChain.ent :=
  entry_ok (E := spec_ReadChain.E) (EnvOK.of dok spec_ReadChain.fok) mixed spec_ReadChain.at_ spec_ReadChain.bd spec_ReadChain.nm spec_ReadChain.ls (by intro l hl; simp only [List.mem_singleton] at hl; subst hl; exact spec_ReadChain_l11.lok rfl rfl) spec_ReadChain.eq
/-! ### loop.example/g00038/spec.TakeChain -/
noncomputable def spec_TakeChain.E : Env := ⟨D, [], [(15, spec_QueueFault.ent), (60, spec_l01Word.ent), (77, spec_l01Mod.ent), (34, spec_ReadChain.ent)], []⟩
noncomputable def spec_TakeChain (a0 : ByteArray) (a1 : Int) (a2 : Int) (a3 : Int) (a4 : Int) (a5 : Int) (a6 : Int) : Option (Int × Int × List (Int × Int × Bool) × Int × Int × Int × Int × Int × Int × Unit) :=
  let b1 : Bool := decide ((a0.size : Int) > 65536)
  bif b1 then
    some (2, 0, [], 0, 0, 0, 0, 0, 0, ())
  else
    (spec_QueueFault a0 a1 a2 a3 a4 a5 a6).bind fun r2 =>
    bif (r2.1 != 0) then
      some (1, 0, [], 0, 0, 0, 0, 0, 0, ())
    else
      (spec_l01Word a0 (wrap64 (a3 + 4))).bind fun r3 =>
      (spec_l01Mod (wrap64 (r3.1 - a5)) 65536).bind fun r4 =>
      bif (r4.1 == 0) then
        some (5, 0, [], 0, 0, 0, 0, 0, 0, ())
      else
      bif decide (r4.1 > a1) then
        some (8, 0, [], 0, 0, 0, 0, 0, 0, ())
      else
        let x5 : Int := (wrap64 ((4 : Int) * (Int.tmod a5 a1)))
        let x6 : Int := (wrap64 ((wrap64 (a3 + 8)) + x5))
        (spec_l01Word a0 x6).bind fun r7 =>
        bif !(a1 == 0) then
          (spec_ReadChain a0 a1 a2 a3 a4 a5 a6 r7.1).bind fun r8 =>
          let x9 : Int := (Int.tmod (wrap64 (a5 + 1)) 65536)
          bif !((65536 : Int) == 0) then
            some (r8.1, r7.1, r8.2.1, a1, a2, a3, a4, x9, a6, ())
          else none
        else none
noncomputable def spec_TakeChain.ent : Entry := ⟨[false, false], [.cell (.val .bor (.str)), .agg [.val .bor (.int .i64), .val .bor (.int .i64), .val .bor (.int .i64), .val .bor (.int .i64), .val .bor (.int .i64), .val .bor (.int .i64)]], [.agg [.val .bor (.int .i64), .val .bor (.int .i64), .val .own (.slice (.pair (.int .i64) (.pair (.int .i64) (.bool)))), .val .bor (.int .i64), .val .bor (.int .i64), .val .bor (.int .i64), .val .bor (.int .i64), .val .bor (.int .i64), .val .bor (.int .i64)]], [], fun v => spec_TakeChain v.1 v.2.1 v.2.2.1 v.2.2.2.1 v.2.2.2.2.1 v.2.2.2.2.2.1 v.2.2.2.2.2.2.1⟩
theorem spec_TakeChain.eq : ∀ v, evFn spec_TakeChain.E Go.Proofs.Try.f39 spec_TakeChain.ent.ptrs spec_TakeChain.ent.ins spec_TakeChain.ent.rets spec_TakeChain.ent.outs v = spec_TakeChain.ent.f v := by intro v; kernel_rfl
theorem spec_TakeChain.fok : ∀ q ∈ [((15 : Nat), spec_QueueFault.ent), ((60 : Nat), spec_l01Word.ent), ((77 : Nat), spec_l01Mod.ent), ((34 : Nat), spec_ReadChain.ent)], EntryOK Go.Proofs.Try.prog q.1 q.2 := by
  intro q hq
  simp only [List.mem_cons, List.mem_nil_iff, or_false] at hq
  rcases hq with rfl | rfl | rfl | rfl
  · exact spec_QueueFault.ok
  · exact spec_l01Word.ok
  · exact spec_l01Mod.ok
  · exact spec_ReadChain.ok
theorem spec_TakeChain.ls : loopsOf (bodyOf Go.Proofs.Try.f39) = [] := by kernel_rfl
theorem spec_TakeChain.at_ : Go.Proofs.Try.prog.funcs[39]? = some Go.Proofs.Try.f39 := by kernel_rfl
theorem spec_TakeChain.bd : Go.Proofs.Try.f39.body = some (bodyOf Go.Proofs.Try.f39) := by kernel_rfl
theorem spec_TakeChain.nm : Go.Proofs.Try.f39.name ≠ "runtime.NumGoroutine" := by decide
theorem spec_TakeChain.ok : EntryOK Go.Proofs.Try.prog 39 spec_TakeChain.ent :=
  entry_ok (E := spec_TakeChain.E) (EnvOK.of dok spec_TakeChain.fok) mixed spec_TakeChain.at_ spec_TakeChain.bd spec_TakeChain.nm spec_TakeChain.ls (by intro l hl; simp at hl) spec_TakeChain.eq
/-! ### loop.example/g00038/impl.ybig -/
noncomputable def impl_ybig.E2 : Env := ⟨D, [], [], []⟩
noncomputable def impl_ybig_l2_step (rec : List ByteArray → Int → Int → Option ((Bool × Unit) ⊕ (Unit))) (y0 : List ByteArray) (y1 : Int) (y2 : Int) : Option ((Bool × Unit) ⊕ (Unit)) :=
  bif decide (y2 < y1) then
    bif decide (0 ≤ y2) && decide (y2 < (y0.length : Int)) then
      let b1 : Bool := decide (((rd (.str) y0 y2).size : Int) > 65536)
      bif b1 then
        some (Sum.inl (true, ()))
      else
        rec y0 y1 (wrap64 (y2 + 1))
    else none
  else
    some (Sum.inr ())
noncomputable def impl_ybig_l2 : Nat → List ByteArray → Int → Int → Option ((Bool × Unit) ⊕ (Unit))
  | 0 => fun _ _ _ => none
  | n + 1 => impl_ybig_l2_step (impl_ybig_l2 n)
noncomputable def impl_ybig_l2.ent : LEntry := ⟨sk 5 (.cell (.val .bor (.slice (.str))) :: (.cell (.val .bor (.int .i64)) :: (.cell (.val .bor (.int .i64)) :: (sk 7 [])))), rk 15 [], [], [], [⟨none, sk 2 (.cell (.val .bor (.bool)) :: (sk 12 [])), rk 15 [], [], []⟩, ⟨some 0, sk 15 [], rk 15 [], [], []⟩], fun v => impl_ybig_l2 K0 v.1 v.2.1 v.2.2.1⟩
theorem impl_ybig_l2.eq : ∀ rec v, evStep impl_ybig.E2 (bodyAt 2 Go.Proofs.Try.f70) impl_ybig_l2.ent.ins impl_ybig_l2.ent.rts impl_ybig_l2.ent.hm impl_ybig_l2.ent.nl impl_ybig_l2.ent.xs rec v = impl_ybig_l2_step (fun c0 c1 c2 => rec (c0, c1, c2, ())) v.1 v.2.1 v.2.2.1 := by intro rec v; kernel_rfl
noncomputable def impl_ybig.E : Env := ⟨D, [], [], [(2, impl_ybig_l2.ent)]⟩
noncomputable def impl_ybig (a0 : List ByteArray) : Option (Bool × Unit) :=
  (impl_ybig_l2 K0 a0 (a0.length : Int) 0).bind fun o2 =>
  match o2 with
  | Sum.inl p3 =>
    some (p3.1, ())
  | Sum.inr p4 =>
    some (false, ())
noncomputable def impl_ybig.ent : Entry := ⟨[false], [.cell (.val .bor (.slice (.str)))], [.cell (.val .bor (.bool))], [], fun v => impl_ybig v.1⟩
theorem impl_ybig.eq : ∀ v, evFn impl_ybig.E Go.Proofs.Try.f70 impl_ybig.ent.ptrs impl_ybig.ent.ins impl_ybig.ent.rets impl_ybig.ent.outs v = impl_ybig.ent.f v := by intro v; kernel_rfl
theorem impl_ybig.fok : ∀ q ∈ ([] : List (Nat × Entry)), EntryOK Go.Proofs.Try.prog q.1 q.2 := by intro q hq; simp at hq
theorem impl_ybig_l2.it : ∀ n v, iter (evStep impl_ybig.E2 (bodyAt 2 Go.Proofs.Try.f70) impl_ybig_l2.ent.ins impl_ybig_l2.ent.rts impl_ybig_l2.ent.hm impl_ybig_l2.ent.nl impl_ybig_l2.ent.xs) n v = impl_ybig_l2 n v.1 v.2.1 v.2.2.1 := by
  intro n
  induction n with
  | zero => intro v; rfl
  | succ n ih =>
    intro v
    show (evStep impl_ybig.E2 (bodyAt 2 Go.Proofs.Try.f70) impl_ybig_l2.ent.ins impl_ybig_l2.ent.rts impl_ybig_l2.ent.hm impl_ybig_l2.ent.nl impl_ybig_l2.ent.xs) (iter (evStep impl_ybig.E2 (bodyAt 2 Go.Proofs.Try.f70) impl_ybig_l2.ent.ins impl_ybig_l2.ent.rts impl_ybig_l2.ent.hm impl_ybig_l2.ent.nl impl_ybig_l2.ent.xs) n) v = _
    rw [impl_ybig_l2.eq, show (fun c0 c1 c2 => iter (evStep impl_ybig.E2 (bodyAt 2 Go.Proofs.Try.f70) impl_ybig_l2.ent.ins impl_ybig_l2.ent.rts impl_ybig_l2.ent.hm impl_ybig_l2.ent.nl impl_ybig_l2.ent.xs) n (c0, c1, c2, ())) = impl_ybig_l2 n from by funext c0 c1 c2; exact ih _]
    rfl
theorem impl_ybig_l2.fr : firstRegion (bodyAt 2 Go.Proofs.Try.f70) = 2 := by kernel_rfl
theorem impl_ybig_l2.ls : loopsOf (bodyAt 2 Go.Proofs.Try.f70) = [] := by kernel_rfl
theorem impl_ybig_l2.lok {E : Env} (hpin : impl_ybig.E2.pin = E.pin) (hfind : find 2 E.loops = some impl_ybig_l2.ent) : LoopOK Go.Proofs.Try.prog E (bodyAt 2 Go.Proofs.Try.f70) :=
  loop_of (E1 := impl_ybig.E2) (EnvOK.of dok impl_ybig.fok) mixed hpin (by rw [impl_ybig_l2.fr]; exact hfind) impl_ybig_l2.ls (by intro l hl; simp at hl) (fun v => (impl_ybig_l2.it K0 v).symm)
theorem impl_ybig.ls : loopsOf (bodyOf Go.Proofs.Try.f70) = [bodyAt 2 Go.Proofs.Try.f70] := by kernel_rfl
theorem impl_ybig.at_ : Go.Proofs.Try.prog.funcs[70]? = some Go.Proofs.Try.f70 := by kernel_rfl
theorem impl_ybig.bd : Go.Proofs.Try.f70.body = some (bodyOf Go.Proofs.Try.f70) := by kernel_rfl
theorem impl_ybig.nm : Go.Proofs.Try.f70.name ≠ "runtime.NumGoroutine" := by decide
theorem impl_ybig.ok : EntryOK Go.Proofs.Try.prog 70 impl_ybig.ent :=
  entry_ok (E := impl_ybig.E) (EnvOK.of dok impl_ybig.fok) mixed impl_ybig.at_ impl_ybig.bd impl_ybig.nm impl_ybig.ls (by intro l hl; simp only [List.mem_singleton] at hl; subst hl; exact impl_ybig_l2.lok rfl rfl) impl_ybig.eq
/-! ### loop.example/g00038/impl.ymemOk -/
noncomputable def impl_ymemOk.E : Env := ⟨D, [], [], []⟩
noncomputable def impl_ymemOk (a0 : ByteArray) : Option (Bool × Unit) :=
  let b1 : Bool := decide ((a0.size : Int) ≥ 256)
  let b2 : Bool := decide ((a0.size : Int) ≤ 65536)
  let x3 : Int := (Int.tmod (a0.size : Int) 256)
  let b4 : Bool := ((b1 && b2) && (x3 == 0))
  bif (!(b1 && b2) || (!((256 : Int) == 0))) then
    some (b4, ())
  else none
noncomputable def impl_ymemOk.ent : Entry := ⟨[false], [.cell (.val .bor (.str))], [.cell (.val .bor (.bool))], [], fun v => impl_ymemOk v.1⟩
theorem impl_ymemOk.eq : ∀ v, evFn impl_ymemOk.E Go.Proofs.Try.f49 impl_ymemOk.ent.ptrs impl_ymemOk.ent.ins impl_ymemOk.ent.rets impl_ymemOk.ent.outs v = impl_ymemOk.ent.f v := by intro v; kernel_rfl
theorem impl_ymemOk.fok : ∀ q ∈ ([] : List (Nat × Entry)), EntryOK Go.Proofs.Try.prog q.1 q.2 := by intro q hq; simp at hq
theorem impl_ymemOk.ls : loopsOf (bodyOf Go.Proofs.Try.f49) = [] := by kernel_rfl
theorem impl_ymemOk.at_ : Go.Proofs.Try.prog.funcs[49]? = some Go.Proofs.Try.f49 := by kernel_rfl
theorem impl_ymemOk.bd : Go.Proofs.Try.f49.body = some (bodyOf Go.Proofs.Try.f49) := by kernel_rfl
theorem impl_ymemOk.nm : Go.Proofs.Try.f49.name ≠ "runtime.NumGoroutine" := by decide
theorem impl_ymemOk.ok : EntryOK Go.Proofs.Try.prog 49 impl_ymemOk.ent :=
  entry_ok (E := impl_ymemOk.E) (EnvOK.of dok impl_ymemOk.fok) mixed impl_ymemOk.at_ impl_ymemOk.bd impl_ymemOk.nm impl_ymemOk.ls (by intro l hl; simp at hl) impl_ymemOk.eq
/-! ### slices.Index[[]int64,int64] -/
noncomputable def slices_Index_int64.E2 : Env := ⟨D, [], [], []⟩
noncomputable def slices_Index_int64_l2_step (rec : List Int → Int → Int → Int → Option ((Int × Unit) ⊕ (Unit))) (y0 : List Int) (y1 : Int) (y2 : Int) (y3 : Int) : Option ((Int × Unit) ⊕ (Unit)) :=
  bif decide (y3 < y2) then
    let b1 : Bool := (y1 == (rd (.int .i64) y0 y3))
    bif decide (0 ≤ y3) && decide (y3 < (y0.length : Int)) then
      bif b1 then
        some (Sum.inl (y3, ()))
      else
        rec y0 y1 y2 (wrap64 (y3 + 1))
    else none
  else
    some (Sum.inr ())
noncomputable def slices_Index_int64_l2 : Nat → List Int → Int → Int → Int → Option ((Int × Unit) ⊕ (Unit))
  | 0 => fun _ _ _ _ => none
  | n + 1 => slices_Index_int64_l2_step (slices_Index_int64_l2 n)
noncomputable def slices_Index_int64_l2.ent : LEntry := ⟨(.cell (.val .bor (.slice (.int .i64))) :: (.cell (.val .bor (.int .i64)) :: (sk 5 (.cell (.val .bor (.int .i64)) :: (.cell (.val .bor (.int .i64)) :: (sk 10 [])))))), rk 19 [], [], [], [⟨none, sk 4 (.cell (.val .bor (.int .i64)) :: (sk 14 [])), rk 19 [], [], []⟩, ⟨some 0, sk 19 [], rk 19 [], [], []⟩], fun v => slices_Index_int64_l2 K0 v.1 v.2.1 v.2.2.1 v.2.2.2.1⟩
theorem slices_Index_int64_l2.eq : ∀ rec v, evStep slices_Index_int64.E2 (bodyAt 2 Go.Proofs.Try.f85) slices_Index_int64_l2.ent.ins slices_Index_int64_l2.ent.rts slices_Index_int64_l2.ent.hm slices_Index_int64_l2.ent.nl slices_Index_int64_l2.ent.xs rec v = slices_Index_int64_l2_step (fun c0 c1 c2 c3 => rec (c0, c1, c2, c3, ())) v.1 v.2.1 v.2.2.1 v.2.2.2.1 := by intro rec v; kernel_rfl
noncomputable def slices_Index_int64.E : Env := ⟨D, [], [], [(2, slices_Index_int64_l2.ent)]⟩
noncomputable def slices_Index_int64 (a0 : List Int) (a1 : Int) : Option (Int × Unit) :=
  (slices_Index_int64_l2 K0 a0 a1 (a0.length : Int) 0).bind fun o2 =>
  match o2 with
  | Sum.inl p3 =>
    some (p3.1, ())
  | Sum.inr p4 =>
    some (-1, ())
noncomputable def slices_Index_int64.ent : Entry := ⟨[false, false], [.cell (.val .bor (.slice (.int .i64))), .cell (.val .bor (.int .i64))], [.cell (.val .bor (.int .i64))], [], fun v => slices_Index_int64 v.1 v.2.1⟩
theorem slices_Index_int64.eq : ∀ v, evFn slices_Index_int64.E Go.Proofs.Try.f85 slices_Index_int64.ent.ptrs slices_Index_int64.ent.ins slices_Index_int64.ent.rets slices_Index_int64.ent.outs v = slices_Index_int64.ent.f v := by intro v; kernel_rfl
theorem slices_Index_int64.fok : ∀ q ∈ ([] : List (Nat × Entry)), EntryOK Go.Proofs.Try.prog q.1 q.2 := by intro q hq; simp at hq
theorem slices_Index_int64_l2.it : ∀ n v, iter (evStep slices_Index_int64.E2 (bodyAt 2 Go.Proofs.Try.f85) slices_Index_int64_l2.ent.ins slices_Index_int64_l2.ent.rts slices_Index_int64_l2.ent.hm slices_Index_int64_l2.ent.nl slices_Index_int64_l2.ent.xs) n v = slices_Index_int64_l2 n v.1 v.2.1 v.2.2.1 v.2.2.2.1 := by
  intro n
  induction n with
  | zero => intro v; rfl
  | succ n ih =>
    intro v
    show (evStep slices_Index_int64.E2 (bodyAt 2 Go.Proofs.Try.f85) slices_Index_int64_l2.ent.ins slices_Index_int64_l2.ent.rts slices_Index_int64_l2.ent.hm slices_Index_int64_l2.ent.nl slices_Index_int64_l2.ent.xs) (iter (evStep slices_Index_int64.E2 (bodyAt 2 Go.Proofs.Try.f85) slices_Index_int64_l2.ent.ins slices_Index_int64_l2.ent.rts slices_Index_int64_l2.ent.hm slices_Index_int64_l2.ent.nl slices_Index_int64_l2.ent.xs) n) v = _
    rw [slices_Index_int64_l2.eq, show (fun c0 c1 c2 c3 => iter (evStep slices_Index_int64.E2 (bodyAt 2 Go.Proofs.Try.f85) slices_Index_int64_l2.ent.ins slices_Index_int64_l2.ent.rts slices_Index_int64_l2.ent.hm slices_Index_int64_l2.ent.nl slices_Index_int64_l2.ent.xs) n (c0, c1, c2, c3, ())) = slices_Index_int64_l2 n from by funext c0 c1 c2 c3; exact ih _]
    rfl
theorem slices_Index_int64_l2.fr : firstRegion (bodyAt 2 Go.Proofs.Try.f85) = 2 := by kernel_rfl
theorem slices_Index_int64_l2.ls : loopsOf (bodyAt 2 Go.Proofs.Try.f85) = [] := by kernel_rfl
theorem slices_Index_int64_l2.lok {E : Env} (hpin : slices_Index_int64.E2.pin = E.pin) (hfind : find 2 E.loops = some slices_Index_int64_l2.ent) : LoopOK Go.Proofs.Try.prog E (bodyAt 2 Go.Proofs.Try.f85) :=
  loop_of (E1 := slices_Index_int64.E2) (EnvOK.of dok slices_Index_int64.fok) mixed hpin (by rw [slices_Index_int64_l2.fr]; exact hfind) slices_Index_int64_l2.ls (by intro l hl; simp at hl) (fun v => (slices_Index_int64_l2.it K0 v).symm)
theorem slices_Index_int64.ls : loopsOf (bodyOf Go.Proofs.Try.f85) = [bodyAt 2 Go.Proofs.Try.f85] := by kernel_rfl
theorem slices_Index_int64.at_ : Go.Proofs.Try.prog.funcs[85]? = some Go.Proofs.Try.f85 := by kernel_rfl
theorem slices_Index_int64.bd : Go.Proofs.Try.f85.body = some (bodyOf Go.Proofs.Try.f85) := by kernel_rfl
theorem slices_Index_int64.nm : Go.Proofs.Try.f85.name ≠ "runtime.NumGoroutine" := by decide
theorem slices_Index_int64.ok : EntryOK Go.Proofs.Try.prog 85 slices_Index_int64.ent :=
  entry_ok (E := slices_Index_int64.E) (EnvOK.of dok slices_Index_int64.fok) mixed slices_Index_int64.at_ slices_Index_int64.bd slices_Index_int64.nm slices_Index_int64.ls (by intro l hl; simp only [List.mem_singleton] at hl; subst hl; exact slices_Index_int64_l2.lok rfl rfl) slices_Index_int64.eq
/-! ### slices.Contains[[]int64,int64] -/
noncomputable def slices_Contains_int64.E : Env := ⟨D, [], [(85, slices_Index_int64.ent)], []⟩
noncomputable def slices_Contains_int64 (a0 : List Int) (a1 : Int) : Option (Bool × Unit) :=
  (slices_Index_int64 a0 a1).bind fun r1 =>
  some (decide (r1.1 ≥ 0), ())
noncomputable def slices_Contains_int64.ent : Entry := ⟨[false, false], [.cell (.val .bor (.slice (.int .i64))), .cell (.val .bor (.int .i64))], [.cell (.val .bor (.bool))], [], fun v => slices_Contains_int64 v.1 v.2.1⟩
theorem slices_Contains_int64.eq : ∀ v, evFn slices_Contains_int64.E Go.Proofs.Try.f53 slices_Contains_int64.ent.ptrs slices_Contains_int64.ent.ins slices_Contains_int64.ent.rets slices_Contains_int64.ent.outs v = slices_Contains_int64.ent.f v := by intro v; kernel_rfl
theorem slices_Contains_int64.fok : ∀ q ∈ [((85 : Nat), slices_Index_int64.ent)], EntryOK Go.Proofs.Try.prog q.1 q.2 := by
  intro q hq
  simp only [List.mem_cons, List.mem_nil_iff, or_false] at hq
  rcases hq with rfl
  · exact slices_Index_int64.ok
theorem slices_Contains_int64.ls : loopsOf (bodyOf Go.Proofs.Try.f53) = [] := by kernel_rfl
theorem slices_Contains_int64.at_ : Go.Proofs.Try.prog.funcs[53]? = some Go.Proofs.Try.f53 := by kernel_rfl
theorem slices_Contains_int64.bd : Go.Proofs.Try.f53.body = some (bodyOf Go.Proofs.Try.f53) := by kernel_rfl
theorem slices_Contains_int64.nm : Go.Proofs.Try.f53.name ≠ "runtime.NumGoroutine" := by decide
theorem slices_Contains_int64.ok : EntryOK Go.Proofs.Try.prog 53 slices_Contains_int64.ent :=
  entry_ok (E := slices_Contains_int64.E) (EnvOK.of dok slices_Contains_int64.fok) mixed slices_Contains_int64.at_ slices_Contains_int64.bd slices_Contains_int64.nm slices_Contains_int64.ls (by intro l hl; simp at hl) slices_Contains_int64.eq
/-! ### loop.example/g00038/impl.yfits -/
noncomputable def impl_yfits.E : Env := ⟨D, [], [], []⟩
noncomputable def impl_yfits (a0 : Int) (a1 : Int) (a2 : Int) : Option (Bool × Unit) :=
  let b1 : Bool := (decide (a1 ≥ 0) && decide (a2 ≥ 0))
  let b2 : Bool := decide (a2 ≤ (wrap64 (a0 - a1)))
  let b3 : Bool := ((b1 && decide (a1 ≤ a0)) && b2)
  some (b3, ())
noncomputable def impl_yfits.ent : Entry := ⟨[false, false, false], [.cell (.val .bor (.int .i64)), .cell (.val .bor (.int .i64)), .cell (.val .bor (.int .i64))], [.cell (.val .bor (.bool))], [], fun v => impl_yfits v.1 v.2.1 v.2.2.1⟩
theorem impl_yfits.eq : ∀ v, evFn impl_yfits.E Go.Proofs.Try.f84 impl_yfits.ent.ptrs impl_yfits.ent.ins impl_yfits.ent.rets impl_yfits.ent.outs v = impl_yfits.ent.f v := by intro v; kernel_rfl
theorem impl_yfits.fok : ∀ q ∈ ([] : List (Nat × Entry)), EntryOK Go.Proofs.Try.prog q.1 q.2 := by intro q hq; simp at hq
theorem impl_yfits.ls : loopsOf (bodyOf Go.Proofs.Try.f84) = [] := by kernel_rfl
theorem impl_yfits.at_ : Go.Proofs.Try.prog.funcs[84]? = some Go.Proofs.Try.f84 := by kernel_rfl
theorem impl_yfits.bd : Go.Proofs.Try.f84.body = some (bodyOf Go.Proofs.Try.f84) := by kernel_rfl
theorem impl_yfits.nm : Go.Proofs.Try.f84.name ≠ "runtime.NumGoroutine" := by decide
theorem impl_yfits.ok : EntryOK Go.Proofs.Try.prog 84 impl_yfits.ent :=
  entry_ok (E := impl_yfits.E) (EnvOK.of dok impl_yfits.fok) mixed impl_yfits.at_ impl_yfits.bd impl_yfits.nm impl_yfits.ls (by intro l hl; simp at hl) impl_yfits.eq
/-! ### loop.example/g00038/impl.yplace -/
noncomputable def impl_yplace.E : Env := ⟨D, [], [(84, impl_yfits.ent)], []⟩
noncomputable def impl_yplace (a0 : ByteArray) (a1 : Int) (a2 : Int) : Option (Bool × Unit) :=
  let r1 : Bool × Unit := (impl_yfits (a0.size : Int) a1 a2).getD (false, ())
  let b2 : Bool := (((Int.tmod a1 4) == 0) && r1.1)
  bif (!((4 : Int) == 0)) && (!((Int.tmod a1 4) == 0) || (impl_yfits (a0.size : Int) a1 a2).isSome) then
    some (b2, ())
  else none
noncomputable def impl_yplace.ent : Entry := ⟨[false, false, false], [.cell (.val .bor (.str)), .cell (.val .bor (.int .i64)), .cell (.val .bor (.int .i64))], [.cell (.val .bor (.bool))], [], fun v => impl_yplace v.1 v.2.1 v.2.2.1⟩
theorem impl_yplace.eq : ∀ v, evFn impl_yplace.E Go.Proofs.Try.f51 impl_yplace.ent.ptrs impl_yplace.ent.ins impl_yplace.ent.rets impl_yplace.ent.outs v = impl_yplace.ent.f v := by intro v; kernel_rfl
theorem impl_yplace.fok : ∀ q ∈ [((84 : Nat), impl_yfits.ent)], EntryOK Go.Proofs.Try.prog q.1 q.2 := by
  intro q hq
  simp only [List.mem_cons, List.mem_nil_iff, or_false] at hq
  rcases hq with rfl
  · exact impl_yfits.ok
theorem impl_yplace.ls : loopsOf (bodyOf Go.Proofs.Try.f51) = [] := by kernel_rfl
theorem impl_yplace.at_ : Go.Proofs.Try.prog.funcs[51]? = some Go.Proofs.Try.f51 := by kernel_rfl
theorem impl_yplace.bd : Go.Proofs.Try.f51.body = some (bodyOf Go.Proofs.Try.f51) := by kernel_rfl
theorem impl_yplace.nm : Go.Proofs.Try.f51.name ≠ "runtime.NumGoroutine" := by decide
theorem impl_yplace.ok : EntryOK Go.Proofs.Try.prog 51 impl_yplace.ent :=
  entry_ok (E := impl_yplace.E) (EnvOK.of dok impl_yplace.fok) mixed impl_yplace.at_ impl_yplace.bd impl_yplace.nm impl_yplace.ls (by intro l hl; simp at hl) impl_yplace.eq
/-! ### loop.example/g00038/impl.yin -/
noncomputable def impl_yin.E : Env := ⟨D, [], [], []⟩
noncomputable def impl_yin (a0 : Int) (a1 : Int) (a2 : Int) : Option (Bool × Unit) :=
  let b1 : Bool := (decide (a0 ≥ a1) && decide (a0 ≤ a2))
  some (b1, ())
noncomputable def impl_yin.ent : Entry := ⟨[false, false, false], [.cell (.val .bor (.int .i64)), .cell (.val .bor (.int .i64)), .cell (.val .bor (.int .i64))], [.cell (.val .bor (.bool))], [], fun v => impl_yin v.1 v.2.1 v.2.2.1⟩
theorem impl_yin.eq : ∀ v, evFn impl_yin.E Go.Proofs.Try.f50 impl_yin.ent.ptrs impl_yin.ent.ins impl_yin.ent.rets impl_yin.ent.outs v = impl_yin.ent.f v := by intro v; kernel_rfl
theorem impl_yin.fok : ∀ q ∈ ([] : List (Nat × Entry)), EntryOK Go.Proofs.Try.prog q.1 q.2 := by intro q hq; simp at hq
theorem impl_yin.ls : loopsOf (bodyOf Go.Proofs.Try.f50) = [] := by kernel_rfl
theorem impl_yin.at_ : Go.Proofs.Try.prog.funcs[50]? = some Go.Proofs.Try.f50 := by kernel_rfl
theorem impl_yin.bd : Go.Proofs.Try.f50.body = some (bodyOf Go.Proofs.Try.f50) := by kernel_rfl
theorem impl_yin.nm : Go.Proofs.Try.f50.name ≠ "runtime.NumGoroutine" := by decide
theorem impl_yin.ok : EntryOK Go.Proofs.Try.prog 50 impl_yin.ent :=
  entry_ok (E := impl_yin.E) (EnvOK.of dok impl_yin.fok) mixed impl_yin.at_ impl_yin.bd impl_yin.nm impl_yin.ls (by intro l hl; simp at hl) impl_yin.eq
/-! ### loop.example/g00038/impl.QueueFault -/
noncomputable def impl_QueueFault.E : Env := ⟨D, [], [(49, impl_ymemOk.ent), (53, slices_Contains_int64.ent), (51, impl_yplace.ent), (50, impl_yin.ent)], []⟩
noncomputable def impl_QueueFault (a0 : ByteArray) (a1 : Int) (a2 : Int) (a3 : Int) (a4 : Int) (a5 : Int) (a6 : Int) : Option (Int × Unit) :=
  (impl_ymemOk a0).bind fun r1 =>
  let l2 : List Int := ([1, 2, 4, 8, 16] : List Int)
  let r3 : Bool × Unit := (slices_Contains_int64 l2 a1).getD (false, ())
  let x4 : Int := (wrap64 ((16 : Int) * a1))
  let r5 : Bool × Unit := (impl_yplace a0 a2 x4).getD (false, ())
  let b6 : Bool := ((!r1.1 || !r3.1) || !r5.1)
  let x7 : Int := (wrap64 ((4 : Int) * a1))
  let x8 : Int := (wrap64 ((8 : Int) + x7))
  let r9 : Bool × Unit := (impl_yplace a0 a3 x8).getD (false, ())
  let x10 : Int := (wrap64 ((8 : Int) * a1))
  let x11 : Int := (wrap64 ((8 : Int) + x10))
  let r12 : Bool × Unit := (impl_yplace a0 a4 x11).getD (false, ())
  let b13 : Bool := ((b6 || !r9.1) || !r12.1)
  let r14 : Bool × Unit := (impl_yin a5 0 65535).getD (false, ())
  let r15 : Bool × Unit := (impl_yin a6 0 65535).getD (false, ())
  let b16 : Bool := ((b13 || !r14.1) || !r15.1)
  bif (!(!(!r1.1)) || (slices_Contains_int64 l2 a1).isSome) && ((!(!(!r1.1 || !r3.1)) || (impl_yplace a0 a2 x4).isSome) && ((!(!b6) || (impl_yplace a0 a3 x8).isSome) && ((!(!(b6 || !r9.1)) || (impl_yplace a0 a4 x11).isSome) && ((!(!b13) || (impl_yin a5 0 65535).isSome) && (!(!(b13 || !r14.1)) || (impl_yin a6 0 65535).isSome))))) then
    bif b16 then
      some (1, ())
    else
      some (0, ())
  else none
noncomputable def impl_QueueFault.ent : Entry := ⟨[false, false], [.cell (.val .bor (.str)), .agg [.val .bor (.int .i64), .val .bor (.int .i64), .val .bor (.int .i64), .val .bor (.int .i64), .val .bor (.int .i64), .val .bor (.int .i64)]], [.cell (.val .bor (.int .i64))], [], fun v => impl_QueueFault v.1 v.2.1 v.2.2.1 v.2.2.2.1 v.2.2.2.2.1 v.2.2.2.2.2.1 v.2.2.2.2.2.2.1⟩
theorem impl_QueueFault.eq : ∀ v, evFn impl_QueueFault.E Go.Proofs.Try.f17 impl_QueueFault.ent.ptrs impl_QueueFault.ent.ins impl_QueueFault.ent.rets impl_QueueFault.ent.outs v = impl_QueueFault.ent.f v := by intro v; kernel_rfl
theorem impl_QueueFault.fok : ∀ q ∈ [((49 : Nat), impl_ymemOk.ent), ((53 : Nat), slices_Contains_int64.ent), ((51 : Nat), impl_yplace.ent), ((50 : Nat), impl_yin.ent)], EntryOK Go.Proofs.Try.prog q.1 q.2 := by
  intro q hq
  simp only [List.mem_cons, List.mem_nil_iff, or_false] at hq
  rcases hq with rfl | rfl | rfl | rfl
  · exact impl_ymemOk.ok
  · exact slices_Contains_int64.ok
  · exact impl_yplace.ok
  · exact impl_yin.ok
theorem impl_QueueFault.ls : loopsOf (bodyOf Go.Proofs.Try.f17) = [] := by kernel_rfl
theorem impl_QueueFault.at_ : Go.Proofs.Try.prog.funcs[17]? = some Go.Proofs.Try.f17 := by kernel_rfl
theorem impl_QueueFault.bd : Go.Proofs.Try.f17.body = some (bodyOf Go.Proofs.Try.f17) := by kernel_rfl
theorem impl_QueueFault.nm : Go.Proofs.Try.f17.name ≠ "runtime.NumGoroutine" := by decide
theorem impl_QueueFault.ok : EntryOK Go.Proofs.Try.prog 17 impl_QueueFault.ent :=
  entry_ok (E := impl_QueueFault.E) (EnvOK.of dok impl_QueueFault.fok) mixed impl_QueueFault.at_ impl_QueueFault.bd impl_QueueFault.nm impl_QueueFault.ls (by intro l hl; simp at hl) impl_QueueFault.eq
/-! ### loop.example/g00038/impl.ymemQueue -/
noncomputable def impl_ymemQueue.E : Env := ⟨D, [], [(70, impl_ybig.ent), (17, impl_QueueFault.ent)], []⟩
noncomputable def impl_ymemQueue (a0 : ByteArray) (a1 : Int) (a2 : Int) (a3 : Int) (a4 : Int) (a5 : Int) (a6 : Int) : Option (Int × Unit) :=
  (impl_ybig [a0]).bind fun r1 =>
  bif r1.1 then
    some (2, ())
  else
    (impl_QueueFault a0 a1 a2 a3 a4 a5 a6).bind fun r2 =>
    some (r2.1, ())
noncomputable def impl_ymemQueue.ent : Entry := ⟨[false, false], [.cell (.val .bor (.str)), .agg [.val .bor (.int .i64), .val .bor (.int .i64), .val .bor (.int .i64), .val .bor (.int .i64), .val .bor (.int .i64), .val .bor (.int .i64)]], [.cell (.val .bor (.int .i64))], [], fun v => impl_ymemQueue v.1 v.2.1 v.2.2.1 v.2.2.2.1 v.2.2.2.2.1 v.2.2.2.2.2.1 v.2.2.2.2.2.2.1⟩
theorem impl_ymemQueue.eq : ∀ v, evFn impl_ymemQueue.E Go.Proofs.Try.f61 impl_ymemQueue.ent.ptrs impl_ymemQueue.ent.ins impl_ymemQueue.ent.rets impl_ymemQueue.ent.outs v = impl_ymemQueue.ent.f v := by intro v; kernel_rfl
theorem impl_ymemQueue.fok : ∀ q ∈ [((70 : Nat), impl_ybig.ent), ((17 : Nat), impl_QueueFault.ent)], EntryOK Go.Proofs.Try.prog q.1 q.2 := by
  intro q hq
  simp only [List.mem_cons, List.mem_nil_iff, or_false] at hq
  rcases hq with rfl | rfl
  · exact impl_ybig.ok
  · exact impl_QueueFault.ok
theorem impl_ymemQueue.ls : loopsOf (bodyOf Go.Proofs.Try.f61) = [] := by kernel_rfl
theorem impl_ymemQueue.at_ : Go.Proofs.Try.prog.funcs[61]? = some Go.Proofs.Try.f61 := by kernel_rfl
theorem impl_ymemQueue.bd : Go.Proofs.Try.f61.body = some (bodyOf Go.Proofs.Try.f61) := by kernel_rfl
theorem impl_ymemQueue.nm : Go.Proofs.Try.f61.name ≠ "runtime.NumGoroutine" := by decide
theorem impl_ymemQueue.ok : EntryOK Go.Proofs.Try.prog 61 impl_ymemQueue.ent :=
  entry_ok (E := impl_ymemQueue.E) (EnvOK.of dok impl_ymemQueue.fok) mixed impl_ymemQueue.at_ impl_ymemQueue.bd impl_ymemQueue.nm impl_ymemQueue.ls (by intro l hl; simp at hl) impl_ymemQueue.eq
/-! ### loop.example/g00038/impl.ywordAt -/
noncomputable def impl_ywordAt.E : Env := ⟨D, [], [], []⟩
noncomputable def impl_ywordAt (a0 : ByteArray) (a1 : Int) : Option (Int × Unit) :=
  let x1 : Int := (wrap64 (bt a0 (wrap64 (a1 + 1))))
  let x2 : Int := (bits .or .i64 (wrap64 (bt a0 a1)) (shl .i64 x1 8))
  let x3 : Int := (wrap64 (bt a0 (wrap64 (a1 + 2))))
  let x4 : Int := (bits .or .i64 x2 (shl .i64 x3 16))
  let x5 : Int := (wrap64 (bt a0 (wrap64 (a1 + 3))))
  let x6 : Int := (bits .or .i64 x4 (shl .i64 x5 24))
  bif (decide (0 ≤ a1) && decide (a1 < (a0.size : Int))) && ((decide (0 ≤ (wrap64 (a1 + 1))) && decide ((wrap64 (a1 + 1)) < (a0.size : Int))) && ((decide (0 ≤ (8 : Int))) && ((decide (0 ≤ (wrap64 (a1 + 2))) && decide ((wrap64 (a1 + 2)) < (a0.size : Int))) && ((decide (0 ≤ (16 : Int))) && ((decide (0 ≤ (wrap64 (a1 + 3))) && decide ((wrap64 (a1 + 3)) < (a0.size : Int))) && (decide (0 ≤ (24 : Int)))))))) then
    some (x6, ())
  else none
noncomputable def impl_ywordAt.ent : Entry := ⟨[false, false], [.cell (.val .bor (.str)), .cell (.val .bor (.int .i64))], [.cell (.val .bor (.int .i64))], [], fun v => impl_ywordAt v.1 v.2.1⟩
theorem impl_ywordAt.eq : ∀ v, evFn impl_ywordAt.E Go.Proofs.Try.f74 impl_ywordAt.ent.ptrs impl_ywordAt.ent.ins impl_ywordAt.ent.rets impl_ywordAt.ent.outs v = impl_ywordAt.ent.f v := by intro v; kernel_rfl
theorem impl_ywordAt.fok : ∀ q ∈ ([] : List (Nat × Entry)), EntryOK Go.Proofs.Try.prog q.1 q.2 := by intro q hq; simp at hq
theorem impl_ywordAt.ls : loopsOf (bodyOf Go.Proofs.Try.f74) = [] := by kernel_rfl
theorem impl_ywordAt.at_ : Go.Proofs.Try.prog.funcs[74]? = some Go.Proofs.Try.f74 := by kernel_rfl
theorem impl_ywordAt.bd : Go.Proofs.Try.f74.body = some (bodyOf Go.Proofs.Try.f74) := by kernel_rfl
theorem impl_ywordAt.nm : Go.Proofs.Try.f74.name ≠ "runtime.NumGoroutine" := by decide
theorem impl_ywordAt.ok : EntryOK Go.Proofs.Try.prog 74 impl_ywordAt.ent :=
  entry_ok (E := impl_ywordAt.E) (EnvOK.of dok impl_ywordAt.fok) mixed impl_ywordAt.at_ impl_ywordAt.bd impl_ywordAt.nm impl_ywordAt.ls (by intro l hl; simp at hl) impl_ywordAt.eq
/-! ### loop.example/g00038/impl.ymod -/
noncomputable def impl_ymod.E : Env := ⟨D, [], [], []⟩
noncomputable def impl_ymod (a0 : Int) (a1 : Int) : Option (Int × Unit) :=
  bif !(a1 == 0) then
    let b1 : Bool := decide ((Int.tmod a0 a1) < 0)
    let x2 : Int := (wrap64 ((Int.tmod a0 a1) + a1))
    let x3 : Int := (bif b1 then x2 else (Int.tmod a0 a1))
    some (x3, ())
  else none
noncomputable def impl_ymod.ent : Entry := ⟨[false, false], [.cell (.val .bor (.int .i64)), .cell (.val .bor (.int .i64))], [.cell (.val .bor (.int .i64))], [], fun v => impl_ymod v.1 v.2.1⟩
theorem impl_ymod.eq : ∀ v, evFn impl_ymod.E Go.Proofs.Try.f93 impl_ymod.ent.ptrs impl_ymod.ent.ins impl_ymod.ent.rets impl_ymod.ent.outs v = impl_ymod.ent.f v := by intro v; kernel_rfl
theorem impl_ymod.fok : ∀ q ∈ ([] : List (Nat × Entry)), EntryOK Go.Proofs.Try.prog q.1 q.2 := by intro q hq; simp at hq
theorem impl_ymod.ls : loopsOf (bodyOf Go.Proofs.Try.f93) = [] := by kernel_rfl
theorem impl_ymod.at_ : Go.Proofs.Try.prog.funcs[93]? = some Go.Proofs.Try.f93 := by kernel_rfl
theorem impl_ymod.bd : Go.Proofs.Try.f93.body = some (bodyOf Go.Proofs.Try.f93) := by kernel_rfl
theorem impl_ymod.nm : Go.Proofs.Try.f93.name ≠ "runtime.NumGoroutine" := by decide
theorem impl_ymod.ok : EntryOK Go.Proofs.Try.prog 93 impl_ymod.ent :=
  entry_ok (E := impl_ymod.E) (EnvOK.of dok impl_ymod.fok) mixed impl_ymod.at_ impl_ymod.bd impl_ymod.nm impl_ymod.ls (by intro l hl; simp at hl) impl_ymod.eq
/-! ### loop.example/g00038/impl.yreadDesc -/
noncomputable def impl_yreadDesc.E3 : Env := ⟨D, [], [(74, impl_ywordAt.ent)], []⟩
noncomputable def impl_yreadDesc_l3_step (rec : ByteArray → Int → Int → Int → Int → Int → Int → Int → Int → Int → Int → Option ((Int × Int × Int × Int × Int × Int × Int × Int × Unit))) (y0 : ByteArray) (y1 : Int) (y2 : Int) (y3 : Int) (y4 : Int) (y5 : Int) (y6 : Int) (y7 : Int) (y8 : Int) (y9 : Int) (y10 : Int) : Option ((Int × Int × Int × Int × Int × Int × Int × Int × Unit)) :=
  bif decide (y2 < 4) then
    let x1 : Int := (wrap64 ((4 : Int) * y2))
    (impl_ywordAt y0 (wrap64 (y1 + x1))).bind fun r2 =>
    let x3 : Int := (bif (y2 == 0) then r2.1 else y7)
    let x4 : Int := (bif (y2 == 1) then r2.1 else y8)
    let x5 : Int := (bif (y2 == 2) then r2.1 else y9)
    let x6 : Int := (bif (y2 == 3) then r2.1 else y10)
    bif decide (0 ≤ y2) && decide (y2 < 4) then
      rec y0 y1 (wrap64 (y2 + 1)) y3 y4 y5 y6 x3 x4 x5 x6
    else none
  else
    some (y3, y4, y5, y6, y7, y8, y9, y10, ())
noncomputable def impl_yreadDesc_l3 : Nat → ByteArray → Int → Int → Int → Int → Int → Int → Int → Int → Int → Int → Option ((Int × Int × Int × Int × Int × Int × Int × Int × Unit))
  | 0 => fun _ _ _ _ _ _ _ _ _ _ _ => none
  | n + 1 => impl_yreadDesc_l3_step (impl_yreadDesc_l3 n)
noncomputable def impl_yreadDesc_l3.ent : LEntry := ⟨(.cell (.val .bor (.str)) :: (.cell (.val .bor (.int .i64)) :: (sk 2 (.cell (.fix (.ptr 4 0)) :: (.cell (.fix (.ptr 5 0)) :: (sk 1 (.cell (.val .bor (.int .i64)) :: (sk 12 [])))))))), rk 4 ([.val .bor (.int .i64), .val .bor (.int .i64), .val .bor (.int .i64), .val .bor (.int .i64)] :: ([.val .bor (.int .i64), .val .bor (.int .i64), .val .bor (.int .i64), .val .bor (.int .i64)] :: (rk 14 []))), [], [], [⟨some 0, sk 4 (.cell (.fix (.ptr 4 0)) :: (.cell (.fix (.ptr 5 0)) :: (sk 14 []))), rk 4 ([.val .bor (.int .i64), .val .bor (.int .i64), .val .bor (.int .i64), .val .bor (.int .i64)] :: ([.val .bor (.int .i64), .val .bor (.int .i64), .val .bor (.int .i64), .val .bor (.int .i64)] :: (rk 14 []))), [], []⟩], fun v => impl_yreadDesc_l3 K0 v.1 v.2.1 v.2.2.1 v.2.2.2.1 v.2.2.2.2.1 v.2.2.2.2.2.1 v.2.2.2.2.2.2.1 v.2.2.2.2.2.2.2.1 v.2.2.2.2.2.2.2.2.1 v.2.2.2.2.2.2.2.2.2.1 v.2.2.2.2.2.2.2.2.2.2.1⟩
theorem impl_yreadDesc_l3.eq : ∀ rec v, evStep impl_yreadDesc.E3 (bodyAt 3 Go.Proofs.Try.f87) impl_yreadDesc_l3.ent.ins impl_yreadDesc_l3.ent.rts impl_yreadDesc_l3.ent.hm impl_yreadDesc_l3.ent.nl impl_yreadDesc_l3.ent.xs rec v = impl_yreadDesc_l3_step (fun c0 c1 c2 c3 c4 c5 c6 c7 c8 c9 c10 => rec (c0, c1, c2, c3, c4, c5, c6, c7, c8, c9, c10, ())) v.1 v.2.1 v.2.2.1 v.2.2.2.1 v.2.2.2.2.1 v.2.2.2.2.2.1 v.2.2.2.2.2.2.1 v.2.2.2.2.2.2.2.1 v.2.2.2.2.2.2.2.2.1 v.2.2.2.2.2.2.2.2.2.1 v.2.2.2.2.2.2.2.2.2.2.1 := by intro rec v; kernel_rfl
noncomputable def impl_yreadDesc.E : Env := ⟨D, [], [(74, impl_ywordAt.ent)], [(3, impl_yreadDesc_l3.ent)]⟩
noncomputable def impl_yreadDesc (a0 : ByteArray) (a1 : Int) : Option (Int × Int × Int × Int × Unit) :=
  (impl_yreadDesc_l3 K0 a0 a1 0 0 0 0 0 0 0 0 0).bind fun o7 =>
  some (o7.2.2.2.2.1, o7.2.2.2.2.2.1, o7.2.2.2.2.2.2.1, o7.2.2.2.2.2.2.2.1, ())
noncomputable def impl_yreadDesc.ent : Entry := ⟨[false, false], [.cell (.val .bor (.str)), .cell (.val .bor (.int .i64))], [.agg [.val .bor (.int .i64), .val .bor (.int .i64), .val .bor (.int .i64), .val .bor (.int .i64)]], [], fun v => impl_yreadDesc v.1 v.2.1⟩
theorem impl_yreadDesc.eq : ∀ v, evFn impl_yreadDesc.E Go.Proofs.Try.f87 impl_yreadDesc.ent.ptrs impl_yreadDesc.ent.ins impl_yreadDesc.ent.rets impl_yreadDesc.ent.outs v = impl_yreadDesc.ent.f v := by intro v; kernel_rfl
theorem impl_yreadDesc.fok : ∀ q ∈ [((74 : Nat), impl_ywordAt.ent)], EntryOK Go.Proofs.Try.prog q.1 q.2 := by
  intro q hq
  simp only [List.mem_cons, List.mem_nil_iff, or_false] at hq
  rcases hq with rfl
  · exact impl_ywordAt.ok
theorem impl_yreadDesc_l3.it : ∀ n v, iter (evStep impl_yreadDesc.E3 (bodyAt 3 Go.Proofs.Try.f87) impl_yreadDesc_l3.ent.ins impl_yreadDesc_l3.ent.rts impl_yreadDesc_l3.ent.hm impl_yreadDesc_l3.ent.nl impl_yreadDesc_l3.ent.xs) n v = impl_yreadDesc_l3 n v.1 v.2.1 v.2.2.1 v.2.2.2.1 v.2.2.2.2.1 v.2.2.2.2.2.1 v.2.2.2.2.2.2.1 v.2.2.2.2.2.2.2.1 v.2.2.2.2.2.2.2.2.1 v.2.2.2.2.2.2.2.2.2.1 v.2.2.2.2.2.2.2.2.2.2.1 := by
  intro n
  induction n with
  | zero => intro v; rfl
  | succ n ih =>
    intro v
    show (evStep impl_yreadDesc.E3 (bodyAt 3 Go.Proofs.Try.f87) impl_yreadDesc_l3.ent.ins impl_yreadDesc_l3.ent.rts impl_yreadDesc_l3.ent.hm impl_yreadDesc_l3.ent.nl impl_yreadDesc_l3.ent.xs) (iter (evStep impl_yreadDesc.E3 (bodyAt 3 Go.Proofs.Try.f87) impl_yreadDesc_l3.ent.ins impl_yreadDesc_l3.ent.rts impl_yreadDesc_l3.ent.hm impl_yreadDesc_l3.ent.nl impl_yreadDesc_l3.ent.xs) n) v = _
    rw [impl_yreadDesc_l3.eq, show (fun c0 c1 c2 c3 c4 c5 c6 c7 c8 c9 c10 => iter (evStep impl_yreadDesc.E3 (bodyAt 3 Go.Proofs.Try.f87) impl_yreadDesc_l3.ent.ins impl_yreadDesc_l3.ent.rts impl_yreadDesc_l3.ent.hm impl_yreadDesc_l3.ent.nl impl_yreadDesc_l3.ent.xs) n (c0, c1, c2, c3, c4, c5, c6, c7, c8, c9, c10, ())) = impl_yreadDesc_l3 n from by funext c0 c1 c2 c3 c4 c5 c6 c7 c8 c9 c10; exact ih _]
    rfl
theorem impl_yreadDesc_l3.fr : firstRegion (bodyAt 3 Go.Proofs.Try.f87) = 3 := by kernel_rfl
theorem impl_yreadDesc_l3.ls : loopsOf (bodyAt 3 Go.Proofs.Try.f87) = [] := by kernel_rfl
theorem impl_yreadDesc_l3.lok {E : Env} (hpin : impl_yreadDesc.E3.pin = E.pin) (hfind : find 3 E.loops = some impl_yreadDesc_l3.ent) : LoopOK Go.Proofs.Try.prog E (bodyAt 3 Go.Proofs.Try.f87) :=
  loop_of (E1 := impl_yreadDesc.E3) (EnvOK.of dok impl_yreadDesc.fok) mixed hpin (by rw [impl_yreadDesc_l3.fr]; exact hfind) impl_yreadDesc_l3.ls (by intro l hl; simp at hl) (fun v => (impl_yreadDesc_l3.it K0 v).symm)
theorem impl_yreadDesc.ls : loopsOf (bodyOf Go.Proofs.Try.f87) = [bodyAt 3 Go.Proofs.Try.f87] := by kernel_rfl
theorem impl_yreadDesc.at_ : Go.Proofs.Try.prog.funcs[87]? = some Go.Proofs.Try.f87 := by kernel_rfl
theorem impl_yreadDesc.bd : Go.Proofs.Try.f87.body = some (bodyOf Go.Proofs.Try.f87) := by kernel_rfl
theorem impl_yreadDesc.nm : Go.Proofs.Try.f87.name ≠ "runtime.NumGoroutine" := by decide
theorem impl_yreadDesc.ok : EntryOK Go.Proofs.Try.prog 87 impl_yreadDesc.ent :=
  entry_ok (E := impl_yreadDesc.E) (EnvOK.of dok impl_yreadDesc.fok) mixed impl_yreadDesc.at_ impl_yreadDesc.bd impl_yreadDesc.nm impl_yreadDesc.ls (by intro l hl; simp only [List.mem_singleton] at hl; subst hl; exact impl_yreadDesc_l3.lok rfl rfl) impl_yreadDesc.eq
/-! ### (loop.example/g00038/impl.ydesc).has -/
noncomputable def impl_ydesc_has.E : Env := ⟨D, [], [], []⟩
noncomputable def impl_ydesc_has (a0 : Int) (a1 : Int) (a2 : Int) (a3 : Int) (a4 : Int) : Option (Bool × Unit) :=
  let b1 : Bool := ((bits .and .i64 a2 a4) != 0)
  some (b1, ())
noncomputable def impl_ydesc_has.ent : Entry := ⟨[false, false], [.agg [.val .bor (.int .i64), .val .bor (.int .i64), .val .bor (.int .i64), .val .bor (.int .i64)], .cell (.val .bor (.int .i64))], [.cell (.val .bor (.bool))], [], fun v => impl_ydesc_has v.1 v.2.1 v.2.2.1 v.2.2.2.1 v.2.2.2.2.1⟩
theorem impl_ydesc_has.eq : ∀ v, evFn impl_ydesc_has.E Go.Proofs.Try.f88 impl_ydesc_has.ent.ptrs impl_ydesc_has.ent.ins impl_ydesc_has.ent.rets impl_ydesc_has.ent.outs v = impl_ydesc_has.ent.f v := by intro v; kernel_rfl
theorem impl_ydesc_has.fok : ∀ q ∈ ([] : List (Nat × Entry)), EntryOK Go.Proofs.Try.prog q.1 q.2 := by intro q hq; simp at hq
theorem impl_ydesc_has.ls : loopsOf (bodyOf Go.Proofs.Try.f88) = [] := by kernel_rfl
theorem impl_ydesc_has.at_ : Go.Proofs.Try.prog.funcs[88]? = some Go.Proofs.Try.f88 := by kernel_rfl
theorem impl_ydesc_has.bd : Go.Proofs.Try.f88.body = some (bodyOf Go.Proofs.Try.f88) := by kernel_rfl
theorem impl_ydesc_has.nm : Go.Proofs.Try.f88.name ≠ "runtime.NumGoroutine" := by decide
theorem impl_ydesc_has.ok : EntryOK Go.Proofs.Try.prog 88 impl_ydesc_has.ent :=
  entry_ok (E := impl_ydesc_has.E) (EnvOK.of dok impl_ydesc_has.fok) mixed impl_ydesc_has.at_ impl_ydesc_has.bd impl_ydesc_has.nm impl_ydesc_has.ls (by intro l hl; simp at hl) impl_ydesc_has.eq
/-! ### (loop.example/g00038/impl.ydesc).buf -/
noncomputable def impl_ydesc_buf.E : Env := ⟨D, [], [(88, impl_ydesc_has.ent)], []⟩
noncomputable def impl_ydesc_buf (a0 : Int) (a1 : Int) (a2 : Int) (a3 : Int) : Option (Int × Int × Bool × Unit) :=
  (impl_ydesc_has a0 a1 a2 a3 2).bind fun r1 =>
  some (a0, a1, r1.1, ())
noncomputable def impl_ydesc_buf.ent : Entry := ⟨[false], [.agg [.val .bor (.int .i64), .val .bor (.int .i64), .val .bor (.int .i64), .val .bor (.int .i64)]], [.agg [.val .bor (.int .i64), .val .bor (.int .i64), .val .bor (.bool)]], [], fun v => impl_ydesc_buf v.1 v.2.1 v.2.2.1 v.2.2.2.1⟩
theorem impl_ydesc_buf.eq : ∀ v, evFn impl_ydesc_buf.E Go.Proofs.Try.f96 impl_ydesc_buf.ent.ptrs impl_ydesc_buf.ent.ins impl_ydesc_buf.ent.rets impl_ydesc_buf.ent.outs v = impl_ydesc_buf.ent.f v := by intro v; kernel_rfl
theorem impl_ydesc_buf.fok : ∀ q ∈ [((88 : Nat), impl_ydesc_has.ent)], EntryOK Go.Proofs.Try.prog q.1 q.2 := by
  intro q hq
  simp only [List.mem_cons, List.mem_nil_iff, or_false] at hq
  rcases hq with rfl
  · exact impl_ydesc_has.ok
theorem impl_ydesc_buf.ls : loopsOf (bodyOf Go.Proofs.Try.f96) = [] := by kernel_rfl
theorem impl_ydesc_buf.at_ : Go.Proofs.Try.prog.funcs[96]? = some Go.Proofs.Try.f96 := by kernel_rfl
theorem impl_ydesc_buf.bd : Go.Proofs.Try.f96.body = some (bodyOf Go.Proofs.Try.f96) := by kernel_rfl
theorem impl_ydesc_buf.nm : Go.Proofs.Try.f96.name ≠ "runtime.NumGoroutine" := by decide
theorem impl_ydesc_buf.ok : EntryOK Go.Proofs.Try.prog 96 impl_ydesc_buf.ent :=
  entry_ok (E := impl_ydesc_buf.E) (EnvOK.of dok impl_ydesc_buf.fok) mixed impl_ydesc_buf.at_ impl_ydesc_buf.bd impl_ydesc_buf.nm impl_ydesc_buf.ls (by intro l hl; simp at hl) impl_ydesc_buf.eq
/-! ### loop.example/g00038/impl.yadd -/
noncomputable def impl_yadd_v4.E : Env := ⟨D, [], [(84, impl_yfits.ent), (88, impl_ydesc_has.ent), (96, impl_ydesc_buf.ent)], []⟩
noncomputable def impl_yadd_v4 (a0 : ByteArray) (a1 : List (Int × Int × Bool)) (a2 : Int) (a3 : Int) (a4 : Int) (a5 : Int) : Option (List (Int × Int × Bool) × Int × Unit) :=
  (impl_yfits (a0.size : Int) a2 a3).bind fun r1 =>
  bif !r1.1 then
    some ([], 2, ())
  else
    let b2 : Bool := decide ((a1.length : Int) > 0)
    let x3 : Int := (wrap64 ((a1.length : Int) - 1))
    let e4 : Int × Int × Bool := rd R1 a1 x3
    let r5 : Bool × Unit := (impl_ydesc_has a2 a3 a4 a5 2).getD (false, ())
    let b6 : Bool := ((b2 && e4.2.2) && !r5.1)
    bif (!b2 || (decide (0 ≤ x3) && decide (x3 < (a1.length : Int)))) && (!(b2 && e4.2.2) || (impl_ydesc_has a2 a3 a4 a5 2).isSome) then
      bif b6 then
        some ([], 6, ())
      else
        (impl_ydesc_buf a2 a3 a4 a5).bind fun r7 =>
        let l8 : List (Int × Int × Bool) := [(r7.1, r7.2.1, r7.2.2.1)]
        bif roomy ((a1.length : Int) + (l8.length : Int)) 24 then
          some ((a1 ++ l8), 0, ())
        else none
    else none
noncomputable def impl_yadd_v4.ent : Entry := ⟨[false, false, false], [.cell (.val .bor (.str)), .cell (.val .own (.slice (.pair (.int .i64) (.pair (.int .i64) (.bool))))), .agg [.val .bor (.int .i64), .val .bor (.int .i64), .val .bor (.int .i64), .val .bor (.int .i64)]], [.cell (.val .own (.slice (.pair (.int .i64) (.pair (.int .i64) (.bool))))), .cell (.val .bor (.int .i64))], [], fun v => impl_yadd_v4 v.1 v.2.1 v.2.2.1 v.2.2.2.1 v.2.2.2.2.1 v.2.2.2.2.2.1⟩
theorem impl_yadd_v4.eq : ∀ v, evFn impl_yadd_v4.E Go.Proofs.Try.f89 impl_yadd_v4.ent.ptrs impl_yadd_v4.ent.ins impl_yadd_v4.ent.rets impl_yadd_v4.ent.outs v = impl_yadd_v4.ent.f v := by intro v; kernel_rfl
theorem impl_yadd_v4.fok : ∀ q ∈ [((84 : Nat), impl_yfits.ent), ((88 : Nat), impl_ydesc_has.ent), ((96 : Nat), impl_ydesc_buf.ent)], EntryOK Go.Proofs.Try.prog q.1 q.2 := by
  intro q hq
  simp only [List.mem_cons, List.mem_nil_iff, or_false] at hq
  rcases hq with rfl | rfl | rfl
  · exact impl_yfits.ok
  · exact impl_ydesc_has.ok
  · exact impl_ydesc_buf.ok
theorem impl_yadd_v4.ls : loopsOf (bodyOf Go.Proofs.Try.f89) = [] := by kernel_rfl
theorem impl_yadd_v4.at_ : Go.Proofs.Try.prog.funcs[89]? = some Go.Proofs.Try.f89 := by kernel_rfl
theorem impl_yadd_v4.bd : Go.Proofs.Try.f89.body = some (bodyOf Go.Proofs.Try.f89) := by kernel_rfl
theorem impl_yadd_v4.nm : Go.Proofs.Try.f89.name ≠ "runtime.NumGoroutine" := by decide
theorem impl_yadd_v4.ok : EntryOK Go.Proofs.Try.prog 89 impl_yadd_v4.ent :=
  entry_ok (E := impl_yadd_v4.E) (EnvOK.of dok impl_yadd_v4.fok) mixed impl_yadd_v4.at_ impl_yadd_v4.bd impl_yadd_v4.nm impl_yadd_v4.ls (by intro l hl; simp at hl) impl_yadd_v4.eq
/-! ### loop.example/g00038/impl.yreadChain -/
noncomputable def impl_yreadChain.E6 : Env := ⟨D, [], [(50, impl_yin.ent), (87, impl_yreadDesc.ent), (88, impl_ydesc_has.ent), (84, impl_yfits.ent), (89, impl_yadd_v4.ent)], []⟩
noncomputable def impl_yreadChain_l6_step (rec : ByteArray → Int → Int → Int → Int → Bool → Int → (List (Int × Int × Bool)) → Option ((Int × List (Int × Int × Bool) × Unit))) (y0 : ByteArray) (y1 : Int) (y2 : Int) (y3 : Int) (y4 : Int) (y5 : Bool) (y6 : Int) (y7 : List (Int × Int × Bool)) : Option ((Int × List (Int × Int × Bool) × Unit)) :=
  bif decide (y3 ≥ y2) then
    some (5, [], ())
  else
    let b15 : Bool := decide ((wrap64 (y4 + 1)) > y2)
    bif b15 then
      some (9, [], ())
    else
      let x16 : Int := (wrap64 ((16 : Int) * y3))
      (impl_yreadDesc y0 (wrap64 (y1 + x16))).bind fun r17 =>
      (impl_ydesc_has r17.1 r17.2.1 r17.2.2.1 r17.2.2.2.1 4).bind fun r18 =>
      bif r18.1 then
        let r19 : Bool × Unit := (impl_ydesc_has r17.1 r17.2.1 r17.2.2.1 r17.2.2.2.1 1).getD (false, ())
        let b20 : Bool := ((Int.tmod r17.2.1 16) != 0)
        let r21 : Bool × Unit := (impl_yin r17.2.1 16 256).getD (false, ())
        let b22 : Bool := (((y5 || r19.1) || b20) || !r21.1)
        let b23 : Bool := ((Int.tmod r17.1 4) != 0)
        bif (!(!y5) || (impl_ydesc_has r17.1 r17.2.1 r17.2.2.1 r17.2.2.2.1 1).isSome) && ((!(!(y5 || r19.1)) || (!((16 : Int) == 0))) && ((!(!((y5 || r19.1) || b20)) || (impl_yin r17.2.1 16 256).isSome) && (!(!b22) || (!((4 : Int) == 0))))) then
          bif (b22 || b23) then
            some (3, [], ())
          else
            (impl_yfits (y0.size : Int) r17.1 r17.2.1).bind fun r24 =>
            bif !r24.1 then
              some (2, [], ())
            else
              let x25 : Int := (wrap64 (Int.tdiv r17.2.1 16))
              bif !((16 : Int) == 0) then
                rec y0 r17.1 x25 0 0 true y6 y7
              else none
        else none
      else
        (impl_yadd_v4 y0 y7 r17.1 r17.2.1 r17.2.2.1 r17.2.2.2.1).bind fun r26 =>
        bif (r26.2.1 != 0) then
          some (r26.2.1, [], ())
        else
          (impl_ydesc_has r17.1 r17.2.1 r17.2.2.1 r17.2.2.2.1 1).bind fun r27 =>
          bif !r27.1 then
            some (0, r26.1, ())
          else
            rec y0 y1 y2 r17.2.2.2.1 (wrap64 (y4 + 1)) y5 y6 r26.1
noncomputable def impl_yreadChain_l6 : Nat → ByteArray → Int → Int → Int → Int → Bool → Int → (List (Int × Int × Bool)) → Option ((Int × List (Int × Int × Bool) × Unit))
  | 0 => fun _ _ _ _ _ _ _ _ => none
  | n + 1 => impl_yreadChain_l6_step (impl_yreadChain_l6 n)
noncomputable def impl_yreadChain_l6.ent : LEntry := ⟨(.cell (.val .bor (.str)) :: (sk 5 (.cell (.fix (.ptr 6 0)) :: (.cell (.fix (.view 7 0)) :: (.cell (.val .bor (.int .i64)) :: (.cell (.val .bor (.int .i64)) :: (.cell (.val .bor (.int .i64)) :: (.cell (.val .bor (.int .i64)) :: (.cell (.val .bor (.bool)) :: (sk 88 [])))))))))), rk 6 ([.val .bor (.int .i64), .fix (.nil)] :: ([.val .own (.slice (.pair (.int .i64) (.pair (.int .i64) (.bool))))] :: (rk 93 []))), [(7, true, .pair (.int .i64) (.pair (.int .i64) (.bool)))], [], [⟨none, sk 6 (.cell (.fix (.ptr 6 0)) :: (sk 94 [])), rk 6 ([.val .bor (.int .i64), .val .own (.slice (.pair (.int .i64) (.pair (.int .i64) (.bool))))] :: (rk 94 [])), [], [(6, 1, true, .pair (.int .i64) (.pair (.int .i64) (.bool)))]⟩], fun v => impl_yreadChain_l6 K0 v.1 v.2.1 v.2.2.1 v.2.2.2.1 v.2.2.2.2.1 v.2.2.2.2.2.1 v.2.2.2.2.2.2.1 v.2.2.2.2.2.2.2.1⟩
theorem impl_yreadChain_l6.eq : ∀ rec v, evStep impl_yreadChain.E6 (bodyAt 6 Go.Proofs.Try.f76) impl_yreadChain_l6.ent.ins impl_yreadChain_l6.ent.rts impl_yreadChain_l6.ent.hm impl_yreadChain_l6.ent.nl impl_yreadChain_l6.ent.xs rec v = impl_yreadChain_l6_step (fun c0 c1 c2 c3 c4 c5 c6 c7 => rec (c0, c1, c2, c3, c4, c5, c6, c7, ())) v.1 v.2.1 v.2.2.1 v.2.2.2.1 v.2.2.2.2.1 v.2.2.2.2.2.1 v.2.2.2.2.2.2.1 v.2.2.2.2.2.2.2.1 := by intro rec v; kernel_rfl
noncomputable def impl_yreadChain.E : Env := ⟨D, [], [(50, impl_yin.ent), (87, impl_yreadDesc.ent), (88, impl_ydesc_has.ent), (84, impl_yfits.ent), (89, impl_yadd_v4.ent)], [(6, impl_yreadChain_l6.ent)]⟩
noncomputable def impl_yreadChain (a0 : ByteArray) (a1 : Int) (a2 : Int) (a3 : Int) (a4 : Int) (a5 : Int) (a6 : Int) (a7 : Int) : Option (Int × List (Int × Int × Bool) × Unit) :=
  (impl_yin a7 0 (wrap64 (a1 - 1))).bind fun r1 =>
  bif !r1.1 then
    some (1, [], ())
  else
    (impl_yreadChain_l6 K0 a0 a2 a1 a7 0 false 0 []).bind fun o28 =>
    some (o28.1, o28.2.1, ())
noncomputable def impl_yreadChain.ent : Entry := ⟨[false, false, false], [.cell (.val .bor (.str)), .agg [.val .bor (.int .i64), .val .bor (.int .i64), .val .bor (.int .i64), .val .bor (.int .i64), .val .bor (.int .i64), .val .bor (.int .i64)], .cell (.val .bor (.int .i64))], [.agg [.val .bor (.int .i64), .val .own (.slice (.pair (.int .i64) (.pair (.int .i64) (.bool))))]], [], fun v => impl_yreadChain v.1 v.2.1 v.2.2.1 v.2.2.2.1 v.2.2.2.2.1 v.2.2.2.2.2.1 v.2.2.2.2.2.2.1 v.2.2.2.2.2.2.2.1⟩
theorem impl_yreadChain.eq : ∀ v, evFn impl_yreadChain.E Go.Proofs.Try.f76 impl_yreadChain.ent.ptrs impl_yreadChain.ent.ins impl_yreadChain.ent.rets impl_yreadChain.ent.outs v = impl_yreadChain.ent.f v := by intro v; kernel_rfl
theorem impl_yreadChain.fok : ∀ q ∈ [((50 : Nat), impl_yin.ent), ((87 : Nat), impl_yreadDesc.ent), ((88 : Nat), impl_ydesc_has.ent), ((84 : Nat), impl_yfits.ent), ((89 : Nat), impl_yadd_v4.ent)], EntryOK Go.Proofs.Try.prog q.1 q.2 := by
  intro q hq
  simp only [List.mem_cons, List.mem_nil_iff, or_false] at hq
  rcases hq with rfl | rfl | rfl | rfl | rfl
  · exact impl_yin.ok
  · exact impl_yreadDesc.ok
  · exact impl_ydesc_has.ok
  · exact impl_yfits.ok
  · exact impl_yadd_v4.ok
theorem impl_yreadChain_l6.it : ∀ n v, iter (evStep impl_yreadChain.E6 (bodyAt 6 Go.Proofs.Try.f76) impl_yreadChain_l6.ent.ins impl_yreadChain_l6.ent.rts impl_yreadChain_l6.ent.hm impl_yreadChain_l6.ent.nl impl_yreadChain_l6.ent.xs) n v = impl_yreadChain_l6 n v.1 v.2.1 v.2.2.1 v.2.2.2.1 v.2.2.2.2.1 v.2.2.2.2.2.1 v.2.2.2.2.2.2.1 v.2.2.2.2.2.2.2.1 := by
  intro n
  induction n with
  | zero => intro v; rfl
  | succ n ih =>
    intro v
    show (evStep impl_yreadChain.E6 (bodyAt 6 Go.Proofs.Try.f76) impl_yreadChain_l6.ent.ins impl_yreadChain_l6.ent.rts impl_yreadChain_l6.ent.hm impl_yreadChain_l6.ent.nl impl_yreadChain_l6.ent.xs) (iter (evStep impl_yreadChain.E6 (bodyAt 6 Go.Proofs.Try.f76) impl_yreadChain_l6.ent.ins impl_yreadChain_l6.ent.rts impl_yreadChain_l6.ent.hm impl_yreadChain_l6.ent.nl impl_yreadChain_l6.ent.xs) n) v = _
    rw [impl_yreadChain_l6.eq, show (fun c0 c1 c2 c3 c4 c5 c6 c7 => iter (evStep impl_yreadChain.E6 (bodyAt 6 Go.Proofs.Try.f76) impl_yreadChain_l6.ent.ins impl_yreadChain_l6.ent.rts impl_yreadChain_l6.ent.hm impl_yreadChain_l6.ent.nl impl_yreadChain_l6.ent.xs) n (c0, c1, c2, c3, c4, c5, c6, c7, ())) = impl_yreadChain_l6 n from by funext c0 c1 c2 c3 c4 c5 c6 c7; exact ih _]
    rfl
theorem impl_yreadChain_l6.fr : firstRegion (bodyAt 6 Go.Proofs.Try.f76) = 6 := by kernel_rfl
theorem impl_yreadChain_l6.ls : loopsOf (bodyAt 6 Go.Proofs.Try.f76) = [] := by kernel_rfl
theorem impl_yreadChain_l6.lok {E : Env} (hpin : impl_yreadChain.E6.pin = E.pin) (hfind : find 6 E.loops = some impl_yreadChain_l6.ent) : LoopOK Go.Proofs.Try.prog E (bodyAt 6 Go.Proofs.Try.f76) :=
  loop_of (E1 := impl_yreadChain.E6) (EnvOK.of dok impl_yreadChain.fok) mixed hpin (by rw [impl_yreadChain_l6.fr]; exact hfind) impl_yreadChain_l6.ls (by intro l hl; simp at hl) (fun v => (impl_yreadChain_l6.it K0 v).symm)
theorem impl_yreadChain.ls : loopsOf (bodyOf Go.Proofs.Try.f76) = [bodyAt 6 Go.Proofs.Try.f76] := by kernel_rfl
theorem impl_yreadChain.at_ : Go.Proofs.Try.prog.funcs[76]? = some Go.Proofs.Try.f76 := by kernel_rfl
theorem impl_yreadChain.bd : Go.Proofs.Try.f76.body = some (bodyOf Go.Proofs.Try.f76) := by kernel_rfl
theorem impl_yreadChain.nm : Go.Proofs.Try.f76.name ≠ "runtime.NumGoroutine" := by decide
theorem impl_yreadChain.ok : EntryOK Go.Proofs.Try.prog 76 impl_yreadChain.ent :=
  entry_ok (E := impl_yreadChain.E) (EnvOK.of dok impl_yreadChain.fok) mixed impl_yreadChain.at_ impl_yreadChain.bd impl_yreadChain.nm impl_yreadChain.ls (by intro l hl; simp only [List.mem_singleton] at hl; subst hl; exact impl_yreadChain_l6.lok rfl rfl) impl_yreadChain.eq
/-! ### loop.example/g00038/impl.ytakeChain -/
noncomputable def impl_ytakeChain.E : Env := ⟨D, [], [(74, impl_ywordAt.ent), (93, impl_ymod.ent), (76, impl_yreadChain.ent)], []⟩
noncomputable def impl_ytakeChain (a0 : ByteArray) (a1 : Int) (a2 : Int) (a3 : Int) (a4 : Int) (a5 : Int) (a6 : Int) : Option (Int × Int × List (Int × Int × Bool) × Int × Int × Int × Int × Int × Int × Unit) :=
  (impl_ywordAt a0 (wrap64 (a3 + 4))).bind fun r1 =>
  bif !((65536 : Int) == 0) then
    let x2 : Int := (wrap64 ((Int.tmod r1.1 65536) - a5))
    (impl_ymod x2 65536).bind fun r3 =>
    bif (r3.1 == 0) then
      some (5, 0, [], 0, 0, 0, 0, 0, 0, ())
    else
    bif decide (r3.1 > a1) then
      some (8, 0, [], 0, 0, 0, 0, 0, 0, ())
    else
      let x4 : Int := (wrap64 ((4 : Int) * (Int.tmod a5 a1)))
      let x5 : Int := (wrap64 ((wrap64 (a3 + 8)) + x4))
      (impl_ywordAt a0 x5).bind fun r6 =>
      bif !(a1 == 0) then
        (impl_yreadChain a0 a1 a2 a3 a4 a5 a6 r6.1).bind fun r7 =>
        let x8 : Int := (Int.tmod (wrap64 (a5 + 1)) 65536)
        bif !((65536 : Int) == 0) then
          some (r7.1, r6.1, r7.2.1, a1, a2, a3, a4, x8, a6, ())
        else none
      else none
  else none
noncomputable def impl_ytakeChain.ent : Entry := ⟨[false, false], [.cell (.val .bor (.str)), .agg [.val .bor (.int .i64), .val .bor (.int .i64), .val .bor (.int .i64), .val .bor (.int .i64), .val .bor (.int .i64), .val .bor (.int .i64)]], [.agg [.val .bor (.int .i64), .val .bor (.int .i64), .val .own (.slice (.pair (.int .i64) (.pair (.int .i64) (.bool)))), .val .bor (.int .i64), .val .bor (.int .i64), .val .bor (.int .i64), .val .bor (.int .i64), .val .bor (.int .i64), .val .bor (.int .i64)]], [], fun v => impl_ytakeChain v.1 v.2.1 v.2.2.1 v.2.2.2.1 v.2.2.2.2.1 v.2.2.2.2.2.1 v.2.2.2.2.2.2.1⟩
theorem impl_ytakeChain.eq : ∀ v, evFn impl_ytakeChain.E Go.Proofs.Try.f78 impl_ytakeChain.ent.ptrs impl_ytakeChain.ent.ins impl_ytakeChain.ent.rets impl_ytakeChain.ent.outs v = impl_ytakeChain.ent.f v := by intro v; kernel_rfl
theorem impl_ytakeChain.fok : ∀ q ∈ [((74 : Nat), impl_ywordAt.ent), ((93 : Nat), impl_ymod.ent), ((76 : Nat), impl_yreadChain.ent)], EntryOK Go.Proofs.Try.prog q.1 q.2 := by
  intro q hq
  simp only [List.mem_cons, List.mem_nil_iff, or_false] at hq
  rcases hq with rfl | rfl | rfl
  · exact impl_ywordAt.ok
  · exact impl_ymod.ok
  · exact impl_yreadChain.ok
theorem impl_ytakeChain.ls : loopsOf (bodyOf Go.Proofs.Try.f78) = [] := by kernel_rfl
theorem impl_ytakeChain.at_ : Go.Proofs.Try.prog.funcs[78]? = some Go.Proofs.Try.f78 := by kernel_rfl
theorem impl_ytakeChain.bd : Go.Proofs.Try.f78.body = some (bodyOf Go.Proofs.Try.f78) := by kernel_rfl
theorem impl_ytakeChain.nm : Go.Proofs.Try.f78.name ≠ "runtime.NumGoroutine" := by decide
theorem impl_ytakeChain.ok : EntryOK Go.Proofs.Try.prog 78 impl_ytakeChain.ent :=
  entry_ok (E := impl_ytakeChain.E) (EnvOK.of dok impl_ytakeChain.fok) mixed impl_ytakeChain.at_ impl_ytakeChain.bd impl_ytakeChain.nm impl_ytakeChain.ls (by intro l hl; simp at hl) impl_ytakeChain.eq
/-! ### loop.example/g00038/impl.TakeChain -/
noncomputable def impl_TakeChain.E : Env := ⟨D, [], [(61, impl_ymemQueue.ent), (78, impl_ytakeChain.ent)], []⟩
noncomputable def impl_TakeChain (a0 : ByteArray) (a1 : Int) (a2 : Int) (a3 : Int) (a4 : Int) (a5 : Int) (a6 : Int) : Option (Int × Int × List (Int × Int × Bool) × Int × Int × Int × Int × Int × Int × Unit) :=
  (impl_ymemQueue a0 a1 a2 a3 a4 a5 a6).bind fun r1 =>
  bif (r1.1 != 0) then
    some (r1.1, 0, [], 0, 0, 0, 0, 0, 0, ())
  else
    (impl_ytakeChain a0 a1 a2 a3 a4 a5 a6).bind fun r2 =>
    some (r2.1, r2.2.1, r2.2.2.1, r2.2.2.2.1, r2.2.2.2.2.1, r2.2.2.2.2.2.1, r2.2.2.2.2.2.2.1, r2.2.2.2.2.2.2.2.1, r2.2.2.2.2.2.2.2.2.1, ())
noncomputable def impl_TakeChain.ent : Entry := ⟨[false, false], [.cell (.val .bor (.str)), .agg [.val .bor (.int .i64), .val .bor (.int .i64), .val .bor (.int .i64), .val .bor (.int .i64), .val .bor (.int .i64), .val .bor (.int .i64)]], [.agg [.val .bor (.int .i64), .val .bor (.int .i64), .val .own (.slice (.pair (.int .i64) (.pair (.int .i64) (.bool)))), .val .bor (.int .i64), .val .bor (.int .i64), .val .bor (.int .i64), .val .bor (.int .i64), .val .bor (.int .i64), .val .bor (.int .i64)]], [], fun v => impl_TakeChain v.1 v.2.1 v.2.2.1 v.2.2.2.1 v.2.2.2.2.1 v.2.2.2.2.2.1 v.2.2.2.2.2.2.1⟩
theorem impl_TakeChain.eq : ∀ v, evFn impl_TakeChain.E Go.Proofs.Try.f40 impl_TakeChain.ent.ptrs impl_TakeChain.ent.ins impl_TakeChain.ent.rets impl_TakeChain.ent.outs v = impl_TakeChain.ent.f v := by intro v; kernel_rfl
theorem impl_TakeChain.fok : ∀ q ∈ [((61 : Nat), impl_ymemQueue.ent), ((78 : Nat), impl_ytakeChain.ent)], EntryOK Go.Proofs.Try.prog q.1 q.2 := by
  intro q hq
  simp only [List.mem_cons, List.mem_nil_iff, or_false] at hq
  rcases hq with rfl | rfl
  · exact impl_ymemQueue.ok
  · exact impl_ytakeChain.ok
theorem impl_TakeChain.ls : loopsOf (bodyOf Go.Proofs.Try.f40) = [] := by kernel_rfl
theorem impl_TakeChain.at_ : Go.Proofs.Try.prog.funcs[40]? = some Go.Proofs.Try.f40 := by kernel_rfl
theorem impl_TakeChain.bd : Go.Proofs.Try.f40.body = some (bodyOf Go.Proofs.Try.f40) := by kernel_rfl
theorem impl_TakeChain.nm : Go.Proofs.Try.f40.name ≠ "runtime.NumGoroutine" := by decide
theorem impl_TakeChain.ok : EntryOK Go.Proofs.Try.prog 40 impl_TakeChain.ent :=
  entry_ok (E := impl_TakeChain.E) (EnvOK.of dok impl_TakeChain.fok) mixed impl_TakeChain.at_ impl_TakeChain.bd impl_TakeChain.nm impl_TakeChain.ls (by intro l hl; simp at hl) impl_TakeChain.eq
/-! ### loop.example/g00038/laws.eqBuf -/
noncomputable def laws_eqBuf.E : Env := ⟨D, [], [], []⟩
noncomputable def laws_eqBuf (a0 : Int) (a1 : Int) (a2 : Bool) (a3 : Int) (a4 : Int) (a5 : Bool) : Option (Bool × Unit) :=
  bif (a0 != a3) then
    some (false, ())
  else
  bif (a1 != a4) then
    some (false, ())
  else
  bif !(a2 == a5) then
    some (false, ())
  else
    some (true, ())
noncomputable def laws_eqBuf.ent : Entry := ⟨[false, false], [.agg [.val .bor (.int .i64), .val .bor (.int .i64), .val .bor (.bool)], .agg [.val .bor (.int .i64), .val .bor (.int .i64), .val .bor (.bool)]], [.cell (.val .bor (.bool))], [], fun v => laws_eqBuf v.1 v.2.1 v.2.2.1 v.2.2.2.1 v.2.2.2.2.1 v.2.2.2.2.2.1⟩
theorem laws_eqBuf.eq : ∀ v, evFn laws_eqBuf.E Go.Proofs.Try.f75 laws_eqBuf.ent.ptrs laws_eqBuf.ent.ins laws_eqBuf.ent.rets laws_eqBuf.ent.outs v = laws_eqBuf.ent.f v := by intro v; kernel_rfl
theorem laws_eqBuf.fok : ∀ q ∈ ([] : List (Nat × Entry)), EntryOK Go.Proofs.Try.prog q.1 q.2 := by intro q hq; simp at hq
theorem laws_eqBuf.ls : loopsOf (bodyOf Go.Proofs.Try.f75) = [] := by kernel_rfl
theorem laws_eqBuf.at_ : Go.Proofs.Try.prog.funcs[75]? = some Go.Proofs.Try.f75 := by kernel_rfl
theorem laws_eqBuf.bd : Go.Proofs.Try.f75.body = some (bodyOf Go.Proofs.Try.f75) := by kernel_rfl
theorem laws_eqBuf.nm : Go.Proofs.Try.f75.name ≠ "runtime.NumGoroutine" := by decide
theorem laws_eqBuf.ok : EntryOK Go.Proofs.Try.prog 75 laws_eqBuf.ent :=
  entry_ok (E := laws_eqBuf.E) (EnvOK.of dok laws_eqBuf.fok) mixed laws_eqBuf.at_ laws_eqBuf.bd laws_eqBuf.nm laws_eqBuf.ls (by intro l hl; simp at hl) laws_eqBuf.eq
/-! ### loop.example/g00038/laws.eqBufS -/
noncomputable def laws_eqBufS.E4 : Env := ⟨D, [], [(75, laws_eqBuf.ent)], []⟩
noncomputable def laws_eqBufS_l4_step (rec : (List (Int × Int × Bool)) → (List (Int × Int × Bool)) → Int → Option ((Bool × Unit) ⊕ (Unit))) (y0 : List (Int × Int × Bool)) (y1 : List (Int × Int × Bool)) (y2 : Int) : Option ((Bool × Unit) ⊕ (Unit)) :=
  let b2 : Bool := decide (y2 < (y0.length : Int))
  bif b2 then
    let e3 : Int × Int × Bool := rd R1 y0 y2
    let e4 : Int × Int × Bool := rd R1 y1 y2
    (laws_eqBuf e3.1 e3.2.1 e3.2.2 e4.1 e4.2.1 e4.2.2).bind fun r5 =>
    bif (decide (0 ≤ y2) && decide (y2 < (y0.length : Int))) && (decide (0 ≤ y2) && decide (y2 < (y1.length : Int))) then
      bif !r5.1 then
        some (Sum.inl (false, ()))
      else
        rec y0 y1 (wrap64 (y2 + 1))
    else none
  else
    some (Sum.inr ())
noncomputable def laws_eqBufS_l4 : Nat → (List (Int × Int × Bool)) → (List (Int × Int × Bool)) → Int → Option ((Bool × Unit) ⊕ (Unit))
  | 0 => fun _ _ _ => none
  | n + 1 => laws_eqBufS_l4_step (laws_eqBufS_l4 n)
noncomputable def laws_eqBufS_l4.ent : LEntry := ⟨(.cell (.val .bor (.slice (.pair (.int .i64) (.pair (.int .i64) (.bool))))) :: (.cell (.val .bor (.slice (.pair (.int .i64) (.pair (.int .i64) (.bool))))) :: (sk 3 (.cell (.val .bor (.int .i64)) :: (sk 21 []))))), rk 27 [], [], [], [⟨none, sk 4 (.cell (.val .bor (.bool)) :: (sk 22 [])), rk 27 [], [], []⟩, ⟨some 0, sk 27 [], rk 27 [], [], []⟩], fun v => laws_eqBufS_l4 K0 v.1 v.2.1 v.2.2.1⟩
theorem laws_eqBufS_l4.eq : ∀ rec v, evStep laws_eqBufS.E4 (bodyAt 4 Go.Proofs.Try.f33) laws_eqBufS_l4.ent.ins laws_eqBufS_l4.ent.rts laws_eqBufS_l4.ent.hm laws_eqBufS_l4.ent.nl laws_eqBufS_l4.ent.xs rec v = laws_eqBufS_l4_step (fun c0 c1 c2 => rec (c0, c1, c2, ())) v.1 v.2.1 v.2.2.1 := by intro rec v; kernel_rfl
noncomputable def laws_eqBufS.E : Env := ⟨D, [], [(75, laws_eqBuf.ent)], [(4, laws_eqBufS_l4.ent)]⟩
noncomputable def laws_eqBufS (a0 : List (Int × Int × Bool)) (a1 : List (Int × Int × Bool)) : Option (Bool × Unit) :=
  let b1 : Bool := ((a0.length : Int) != (a1.length : Int))
  bif b1 then
    some (false, ())
  else
    (laws_eqBufS_l4 K0 a0 a1 0).bind fun o6 =>
    match o6 with
    | Sum.inl p7 =>
      some (p7.1, ())
    | Sum.inr p8 =>
      some (true, ())
noncomputable def laws_eqBufS.ent : Entry := ⟨[false, false], [.cell (.val .bor (.slice (.pair (.int .i64) (.pair (.int .i64) (.bool))))), .cell (.val .bor (.slice (.pair (.int .i64) (.pair (.int .i64) (.bool)))))], [.cell (.val .bor (.bool))], [], fun v => laws_eqBufS v.1 v.2.1⟩
theorem laws_eqBufS.eq : ∀ v, evFn laws_eqBufS.E Go.Proofs.Try.f33 laws_eqBufS.ent.ptrs laws_eqBufS.ent.ins laws_eqBufS.ent.rets laws_eqBufS.ent.outs v = laws_eqBufS.ent.f v := by intro v; kernel_rfl
theorem laws_eqBufS.fok : ∀ q ∈ [((75 : Nat), laws_eqBuf.ent)], EntryOK Go.Proofs.Try.prog q.1 q.2 := by
  intro q hq
  simp only [List.mem_cons, List.mem_nil_iff, or_false] at hq
  rcases hq with rfl
  · exact laws_eqBuf.ok
theorem laws_eqBufS_l4.it : ∀ n v, iter (evStep laws_eqBufS.E4 (bodyAt 4 Go.Proofs.Try.f33) laws_eqBufS_l4.ent.ins laws_eqBufS_l4.ent.rts laws_eqBufS_l4.ent.hm laws_eqBufS_l4.ent.nl laws_eqBufS_l4.ent.xs) n v = laws_eqBufS_l4 n v.1 v.2.1 v.2.2.1 := by
  intro n
  induction n with
  | zero => intro v; rfl
  | succ n ih =>
    intro v
    show (evStep laws_eqBufS.E4 (bodyAt 4 Go.Proofs.Try.f33) laws_eqBufS_l4.ent.ins laws_eqBufS_l4.ent.rts laws_eqBufS_l4.ent.hm laws_eqBufS_l4.ent.nl laws_eqBufS_l4.ent.xs) (iter (evStep laws_eqBufS.E4 (bodyAt 4 Go.Proofs.Try.f33) laws_eqBufS_l4.ent.ins laws_eqBufS_l4.ent.rts laws_eqBufS_l4.ent.hm laws_eqBufS_l4.ent.nl laws_eqBufS_l4.ent.xs) n) v = _
    rw [laws_eqBufS_l4.eq, show (fun c0 c1 c2 => iter (evStep laws_eqBufS.E4 (bodyAt 4 Go.Proofs.Try.f33) laws_eqBufS_l4.ent.ins laws_eqBufS_l4.ent.rts laws_eqBufS_l4.ent.hm laws_eqBufS_l4.ent.nl laws_eqBufS_l4.ent.xs) n (c0, c1, c2, ())) = laws_eqBufS_l4 n from by funext c0 c1 c2; exact ih _]
    rfl
theorem laws_eqBufS_l4.fr : firstRegion (bodyAt 4 Go.Proofs.Try.f33) = 4 := by kernel_rfl
theorem laws_eqBufS_l4.ls : loopsOf (bodyAt 4 Go.Proofs.Try.f33) = [] := by kernel_rfl
theorem laws_eqBufS_l4.lok {E : Env} (hpin : laws_eqBufS.E4.pin = E.pin) (hfind : find 4 E.loops = some laws_eqBufS_l4.ent) : LoopOK Go.Proofs.Try.prog E (bodyAt 4 Go.Proofs.Try.f33) :=
  loop_of (E1 := laws_eqBufS.E4) (EnvOK.of dok laws_eqBufS.fok) mixed hpin (by rw [laws_eqBufS_l4.fr]; exact hfind) laws_eqBufS_l4.ls (by intro l hl; simp at hl) (fun v => (laws_eqBufS_l4.it K0 v).symm)
theorem laws_eqBufS.ls : loopsOf (bodyOf Go.Proofs.Try.f33) = [bodyAt 4 Go.Proofs.Try.f33] := by kernel_rfl
theorem laws_eqBufS.at_ : Go.Proofs.Try.prog.funcs[33]? = some Go.Proofs.Try.f33 := by kernel_rfl
theorem laws_eqBufS.bd : Go.Proofs.Try.f33.body = some (bodyOf Go.Proofs.Try.f33) := by kernel_rfl
theorem laws_eqBufS.nm : Go.Proofs.Try.f33.name ≠ "runtime.NumGoroutine" := by decide
theorem laws_eqBufS.ok : EntryOK Go.Proofs.Try.prog 33 laws_eqBufS.ent :=
  entry_ok (E := laws_eqBufS.E) (EnvOK.of dok laws_eqBufS.fok) mixed laws_eqBufS.at_ laws_eqBufS.bd laws_eqBufS.nm laws_eqBufS.ls (by intro l hl; simp only [List.mem_singleton] at hl; subst hl; exact laws_eqBufS_l4.lok rfl rfl) laws_eqBufS.eq
/-! ### loop.example/g00038/laws.eqQueue -/
noncomputable def laws_eqQueue.E : Env := ⟨D, [], [], []⟩
noncomputable def laws_eqQueue (a0 : Int) (a1 : Int) (a2 : Int) (a3 : Int) (a4 : Int) (a5 : Int) (a6 : Int) (a7 : Int) (a8 : Int) (a9 : Int) (a10 : Int) (a11 : Int) : Option (Bool × Unit) :=
  bif (a0 != a6) then
    some (false, ())
  else
  bif (a1 != a7) then
    some (false, ())
  else
  bif (a2 != a8) then
    some (false, ())
  else
  bif (a3 != a9) then
    some (false, ())
  else
  bif (a4 != a10) then
    some (false, ())
  else
  bif (a5 != a11) then
    some (false, ())
  else
    some (true, ())
noncomputable def laws_eqQueue.ent : Entry := ⟨[false, false], [.agg [.val .bor (.int .i64), .val .bor (.int .i64), .val .bor (.int .i64), .val .bor (.int .i64), .val .bor (.int .i64), .val .bor (.int .i64)], .agg [.val .bor (.int .i64), .val .bor (.int .i64), .val .bor (.int .i64), .val .bor (.int .i64), .val .bor (.int .i64), .val .bor (.int .i64)]], [.cell (.val .bor (.bool))], [], fun v => laws_eqQueue v.1 v.2.1 v.2.2.1 v.2.2.2.1 v.2.2.2.2.1 v.2.2.2.2.2.1 v.2.2.2.2.2.2.1 v.2.2.2.2.2.2.2.1 v.2.2.2.2.2.2.2.2.1 v.2.2.2.2.2.2.2.2.2.1 v.2.2.2.2.2.2.2.2.2.2.1 v.2.2.2.2.2.2.2.2.2.2.2.1⟩
theorem laws_eqQueue.eq : ∀ v, evFn laws_eqQueue.E Go.Proofs.Try.f63 laws_eqQueue.ent.ptrs laws_eqQueue.ent.ins laws_eqQueue.ent.rets laws_eqQueue.ent.outs v = laws_eqQueue.ent.f v := by intro v; kernel_rfl
theorem laws_eqQueue.fok : ∀ q ∈ ([] : List (Nat × Entry)), EntryOK Go.Proofs.Try.prog q.1 q.2 := by intro q hq; simp at hq
theorem laws_eqQueue.ls : loopsOf (bodyOf Go.Proofs.Try.f63) = [] := by kernel_rfl
theorem laws_eqQueue.at_ : Go.Proofs.Try.prog.funcs[63]? = some Go.Proofs.Try.f63 := by kernel_rfl
theorem laws_eqQueue.bd : Go.Proofs.Try.f63.body = some (bodyOf Go.Proofs.Try.f63) := by kernel_rfl
theorem laws_eqQueue.nm : Go.Proofs.Try.f63.name ≠ "runtime.NumGoroutine" := by decide
theorem laws_eqQueue.ok : EntryOK Go.Proofs.Try.prog 63 laws_eqQueue.ent :=
  entry_ok (E := laws_eqQueue.E) (EnvOK.of dok laws_eqQueue.fok) mixed laws_eqQueue.at_ laws_eqQueue.bd laws_eqQueue.nm laws_eqQueue.ls (by intro l hl; simp at hl) laws_eqQueue.eq
/-! ### loop.example/g00038/laws.eqTakenChain -/
noncomputable def laws_eqTakenChain.E : Env := ⟨D, [], [(33, laws_eqBufS.ent), (63, laws_eqQueue.ent)], []⟩
noncomputable def laws_eqTakenChain (a0 : Int) (a1 : Int) (a2 : List (Int × Int × Bool)) (a3 : Int) (a4 : Int) (a5 : Int) (a6 : Int) (a7 : Int) (a8 : Int) (a9 : Int) (a10 : Int) (a11 : List (Int × Int × Bool)) (a12 : Int) (a13 : Int) (a14 : Int) (a15 : Int) (a16 : Int) (a17 : Int) : Option (Bool × Unit) :=
  bif (a0 != a9) then
    some (false, ())
  else
  bif (a1 != a10) then
    some (false, ())
  else
    (laws_eqBufS a2 a11).bind fun r1 =>
    bif !r1.1 then
      some (false, ())
    else
      (laws_eqQueue a3 a4 a5 a6 a7 a8 a12 a13 a14 a15 a16 a17).bind fun r2 =>
      bif !r2.1 then
        some (false, ())
      else
        some (true, ())
noncomputable def laws_eqTakenChain.ent : Entry := ⟨[false, false], [.agg [.val .bor (.int .i64), .val .bor (.int .i64), .val .bor (.slice (.pair (.int .i64) (.pair (.int .i64) (.bool)))), .val .bor (.int .i64), .val .bor (.int .i64), .val .bor (.int .i64), .val .bor (.int .i64), .val .bor (.int .i64), .val .bor (.int .i64)], .agg [.val .bor (.int .i64), .val .bor (.int .i64), .val .bor (.slice (.pair (.int .i64) (.pair (.int .i64) (.bool)))), .val .bor (.int .i64), .val .bor (.int .i64), .val .bor (.int .i64), .val .bor (.int .i64), .val .bor (.int .i64), .val .bor (.int .i64)]], [.cell (.val .bor (.bool))], [], fun v => laws_eqTakenChain v.1 v.2.1 v.2.2.1 v.2.2.2.1 v.2.2.2.2.1 v.2.2.2.2.2.1 v.2.2.2.2.2.2.1 v.2.2.2.2.2.2.2.1 v.2.2.2.2.2.2.2.2.1 v.2.2.2.2.2.2.2.2.2.1 v.2.2.2.2.2.2.2.2.2.2.1 v.2.2.2.2.2.2.2.2.2.2.2.1 v.2.2.2.2.2.2.2.2.2.2.2.2.1 v.2.2.2.2.2.2.2.2.2.2.2.2.2.1 v.2.2.2.2.2.2.2.2.2.2.2.2.2.2.1 v.2.2.2.2.2.2.2.2.2.2.2.2.2.2.2.1 v.2.2.2.2.2.2.2.2.2.2.2.2.2.2.2.2.1 v.2.2.2.2.2.2.2.2.2.2.2.2.2.2.2.2.2.1⟩
theorem laws_eqTakenChain.eq : ∀ v, evFn laws_eqTakenChain.E Go.Proofs.Try.f41 laws_eqTakenChain.ent.ptrs laws_eqTakenChain.ent.ins laws_eqTakenChain.ent.rets laws_eqTakenChain.ent.outs v = laws_eqTakenChain.ent.f v := by intro v; kernel_rfl
theorem laws_eqTakenChain.fok : ∀ q ∈ [((33 : Nat), laws_eqBufS.ent), ((63 : Nat), laws_eqQueue.ent)], EntryOK Go.Proofs.Try.prog q.1 q.2 := by
  intro q hq
  simp only [List.mem_cons, List.mem_nil_iff, or_false] at hq
  rcases hq with rfl | rfl
  · exact laws_eqBufS.ok
  · exact laws_eqQueue.ok
theorem laws_eqTakenChain.ls : loopsOf (bodyOf Go.Proofs.Try.f41) = [] := by kernel_rfl
theorem laws_eqTakenChain.at_ : Go.Proofs.Try.prog.funcs[41]? = some Go.Proofs.Try.f41 := by kernel_rfl
theorem laws_eqTakenChain.bd : Go.Proofs.Try.f41.body = some (bodyOf Go.Proofs.Try.f41) := by kernel_rfl
theorem laws_eqTakenChain.nm : Go.Proofs.Try.f41.name ≠ "runtime.NumGoroutine" := by decide
theorem laws_eqTakenChain.ok : EntryOK Go.Proofs.Try.prog 41 laws_eqTakenChain.ent :=
  entry_ok (E := laws_eqTakenChain.E) (EnvOK.of dok laws_eqTakenChain.fok) mixed laws_eqTakenChain.at_ laws_eqTakenChain.bd laws_eqTakenChain.nm laws_eqTakenChain.ls (by intro l hl; simp at hl) laws_eqTakenChain.eq
/-! ### loop.example/g00038/laws.markBufS -/
noncomputable def laws_markBufS_v2.E2 : Env := ⟨D, [0], [], []⟩
noncomputable def laws_markBufS_v2_l2_step (rec : Int → Int → (List (Int × Int × Bool)) → Option ((Int × List (Int × Int × Bool) × Unit))) (y0 : Int) (y1 : Int) (y2 : List (Int × Int × Bool)) : Option ((Int × List (Int × Int × Bool) × Unit)) :=
  let b1 : Bool := decide (y1 < (y2.length : Int))
  bif b1 then
    let e2 : Int × Int × Bool := rd R1 y2 y1
    let l3 : List (Int × Int × Bool) := y2.set y1.toNat (y0, e2.2)
    bif decide (0 ≤ y1) && decide (y1 < (y2.length : Int)) then
      let e4 : Int × Int × Bool := rd R1 l3 y1
      let l5 : List (Int × Int × Bool) := l3.set y1.toNat (e4.1, (wrap64 (y0 + 1)), e4.2.2)
      bif decide (0 ≤ y1) && decide (y1 < (l3.length : Int)) then
        let x6 : Int := (wrap64 ((wrap64 (y0 + 1)) + 1))
        let e7 : Int × Int × Bool := rd R1 l5 y1
        let l8 : List (Int × Int × Bool) := l5.set y1.toNat (e7.1, e7.2.1, ((Int.tmod x6 3) == 0))
        bif (!((3 : Int) == 0)) && (decide (0 ≤ y1) && decide (y1 < (l5.length : Int))) then
          rec (wrap64 (x6 + 1)) (wrap64 (y1 + 1)) l8
        else none
      else none
    else none
  else
    some (y0, y2, ())
noncomputable def laws_markBufS_v2_l2 : Nat → Int → Int → (List (Int × Int × Bool)) → Option ((Int × List (Int × Int × Bool) × Unit))
  | 0 => fun _ _ _ => none
  | n + 1 => laws_markBufS_v2_l2_step (laws_markBufS_v2_l2 n)
noncomputable def laws_markBufS_v2_l2.ent : LEntry := ⟨(.cell (.fix (.view 0 0)) :: (.cell (.val .bor (.int .i64)) :: (sk 3 (.cell (.val .bor (.int .i64)) :: (sk 30 []))))), ([.val .lent (.slice (.pair (.int .i64) (.pair (.int .i64) (.bool))))] :: (rk 35 [])), [], [], [⟨some 0, (.cell (.fix (.view 0 0)) :: (.cell (.val .bor (.int .i64)) :: (sk 34 []))), ([.val .lent (.slice (.pair (.int .i64) (.pair (.int .i64) (.bool))))] :: (rk 35 [])), [], []⟩], fun v => laws_markBufS_v2_l2 K0 v.1 v.2.1 v.2.2.1⟩
theorem laws_markBufS_v2_l2.eq : ∀ rec v, evStep laws_markBufS_v2.E2 (bodyAt 2 Go.Proofs.Try.f66) laws_markBufS_v2_l2.ent.ins laws_markBufS_v2_l2.ent.rts laws_markBufS_v2_l2.ent.hm laws_markBufS_v2_l2.ent.nl laws_markBufS_v2_l2.ent.xs rec v = laws_markBufS_v2_l2_step (fun c0 c1 c2 => rec (c0, c1, c2, ())) v.1 v.2.1 v.2.2.1 := by intro rec v; kernel_rfl
noncomputable def laws_markBufS_v2.E : Env := ⟨D, [0], [], [(2, laws_markBufS_v2_l2.ent)]⟩
noncomputable def laws_markBufS_v2 (a0 : List (Int × Int × Bool)) (a1 : Int) : Option (Int × List (Int × Int × Bool) × Unit) :=
  (laws_markBufS_v2_l2 K0 a1 0 a0).bind fun o9 =>
  some (o9.1, o9.2.1, ())
noncomputable def laws_markBufS_v2.ent : Entry := ⟨[false, false], [.cell (.val .lent (.slice (.pair (.int .i64) (.pair (.int .i64) (.bool))))), .cell (.val .bor (.int .i64))], [.cell (.val .bor (.int .i64))], [.cell (.val .lent (.slice (.pair (.int .i64) (.pair (.int .i64) (.bool)))))], fun v => laws_markBufS_v2 v.1 v.2.1⟩
theorem laws_markBufS_v2.eq : ∀ v, evFn laws_markBufS_v2.E Go.Proofs.Try.f66 laws_markBufS_v2.ent.ptrs laws_markBufS_v2.ent.ins laws_markBufS_v2.ent.rets laws_markBufS_v2.ent.outs v = laws_markBufS_v2.ent.f v := by intro v; kernel_rfl
theorem laws_markBufS_v2.fok : ∀ q ∈ ([] : List (Nat × Entry)), EntryOK Go.Proofs.Try.prog q.1 q.2 := by intro q hq; simp at hq
theorem laws_markBufS_v2_l2.it : ∀ n v, iter (evStep laws_markBufS_v2.E2 (bodyAt 2 Go.Proofs.Try.f66) laws_markBufS_v2_l2.ent.ins laws_markBufS_v2_l2.ent.rts laws_markBufS_v2_l2.ent.hm laws_markBufS_v2_l2.ent.nl laws_markBufS_v2_l2.ent.xs) n v = laws_markBufS_v2_l2 n v.1 v.2.1 v.2.2.1 := by
  intro n
  induction n with
  | zero => intro v; rfl
  | succ n ih =>
    intro v
    show (evStep laws_markBufS_v2.E2 (bodyAt 2 Go.Proofs.Try.f66) laws_markBufS_v2_l2.ent.ins laws_markBufS_v2_l2.ent.rts laws_markBufS_v2_l2.ent.hm laws_markBufS_v2_l2.ent.nl laws_markBufS_v2_l2.ent.xs) (iter (evStep laws_markBufS_v2.E2 (bodyAt 2 Go.Proofs.Try.f66) laws_markBufS_v2_l2.ent.ins laws_markBufS_v2_l2.ent.rts laws_markBufS_v2_l2.ent.hm laws_markBufS_v2_l2.ent.nl laws_markBufS_v2_l2.ent.xs) n) v = _
    rw [laws_markBufS_v2_l2.eq, show (fun c0 c1 c2 => iter (evStep laws_markBufS_v2.E2 (bodyAt 2 Go.Proofs.Try.f66) laws_markBufS_v2_l2.ent.ins laws_markBufS_v2_l2.ent.rts laws_markBufS_v2_l2.ent.hm laws_markBufS_v2_l2.ent.nl laws_markBufS_v2_l2.ent.xs) n (c0, c1, c2, ())) = laws_markBufS_v2_l2 n from by funext c0 c1 c2; exact ih _]
    rfl
theorem laws_markBufS_v2_l2.fr : firstRegion (bodyAt 2 Go.Proofs.Try.f66) = 2 := by kernel_rfl
theorem laws_markBufS_v2_l2.ls : loopsOf (bodyAt 2 Go.Proofs.Try.f66) = [] := by kernel_rfl
theorem laws_markBufS_v2_l2.lok {E : Env} (hpin : laws_markBufS_v2.E2.pin = E.pin) (hfind : find 2 E.loops = some laws_markBufS_v2_l2.ent) : LoopOK Go.Proofs.Try.prog E (bodyAt 2 Go.Proofs.Try.f66) :=
  loop_of (E1 := laws_markBufS_v2.E2) (EnvOK.of dok laws_markBufS_v2.fok) mixed hpin (by rw [laws_markBufS_v2_l2.fr]; exact hfind) laws_markBufS_v2_l2.ls (by intro l hl; simp at hl) (fun v => (laws_markBufS_v2_l2.it K0 v).symm)
theorem laws_markBufS_v2.ls : loopsOf (bodyOf Go.Proofs.Try.f66) = [bodyAt 2 Go.Proofs.Try.f66] := by kernel_rfl
theorem laws_markBufS_v2.at_ : Go.Proofs.Try.prog.funcs[66]? = some Go.Proofs.Try.f66 := by kernel_rfl
theorem laws_markBufS_v2.bd : Go.Proofs.Try.f66.body = some (bodyOf Go.Proofs.Try.f66) := by kernel_rfl
theorem laws_markBufS_v2.nm : Go.Proofs.Try.f66.name ≠ "runtime.NumGoroutine" := by decide
theorem laws_markBufS_v2.ok : EntryOK Go.Proofs.Try.prog 66 laws_markBufS_v2.ent :=
  entry_ok (E := laws_markBufS_v2.E) (EnvOK.of dok laws_markBufS_v2.fok) mixed laws_markBufS_v2.at_ laws_markBufS_v2.bd laws_markBufS_v2.nm laws_markBufS_v2.ls (by intro l hl; simp only [List.mem_singleton] at hl; subst hl; exact laws_markBufS_v2_l2.lok rfl rfl) laws_markBufS_v2.eq
/-! ### loop.example/g00038/laws.markTakenChain -/
noncomputable def laws_markTakenChain_v2.E : Env := ⟨D, [0], [(66, laws_markBufS_v2.ent)], []⟩
noncomputable def laws_markTakenChain_v2 (a0 : Int) (a1 : Int) (a2 : List (Int × Int × Bool)) (a3 : Int) (a4 : Int) (a5 : Int) (a6 : Int) (a7 : Int) (a8 : Int) (a9 : Int) : Option (Int × List (Int × Int × Bool) × Unit) :=
  (laws_markBufS_v2 a2 a9).bind fun r1 =>
  some (r1.1, r1.2.1, ())
noncomputable def laws_markTakenChain_v2.ent : Entry := ⟨[false, false], [.agg [.val .bor (.int .i64), .val .bor (.int .i64), .val .lent (.slice (.pair (.int .i64) (.pair (.int .i64) (.bool)))), .val .bor (.int .i64), .val .bor (.int .i64), .val .bor (.int .i64), .val .bor (.int .i64), .val .bor (.int .i64), .val .bor (.int .i64)], .cell (.val .bor (.int .i64))], [.cell (.val .bor (.int .i64))], [.cell (.val .lent (.slice (.pair (.int .i64) (.pair (.int .i64) (.bool)))))], fun v => laws_markTakenChain_v2 v.1 v.2.1 v.2.2.1 v.2.2.2.1 v.2.2.2.2.1 v.2.2.2.2.2.1 v.2.2.2.2.2.2.1 v.2.2.2.2.2.2.2.1 v.2.2.2.2.2.2.2.2.1 v.2.2.2.2.2.2.2.2.2.1⟩
theorem laws_markTakenChain_v2.eq : ∀ v, evFn laws_markTakenChain_v2.E Go.Proofs.Try.f42 laws_markTakenChain_v2.ent.ptrs laws_markTakenChain_v2.ent.ins laws_markTakenChain_v2.ent.rets laws_markTakenChain_v2.ent.outs v = laws_markTakenChain_v2.ent.f v := by intro v; kernel_rfl
theorem laws_markTakenChain_v2.fok : ∀ q ∈ [((66 : Nat), laws_markBufS_v2.ent)], EntryOK Go.Proofs.Try.prog q.1 q.2 := by
  intro q hq
  simp only [List.mem_cons, List.mem_nil_iff, or_false] at hq
  rcases hq with rfl
  · exact laws_markBufS_v2.ok
theorem laws_markTakenChain_v2.ls : loopsOf (bodyOf Go.Proofs.Try.f42) = [] := by kernel_rfl
theorem laws_markTakenChain_v2.at_ : Go.Proofs.Try.prog.funcs[42]? = some Go.Proofs.Try.f42 := by kernel_rfl
theorem laws_markTakenChain_v2.bd : Go.Proofs.Try.f42.body = some (bodyOf Go.Proofs.Try.f42) := by kernel_rfl
theorem laws_markTakenChain_v2.nm : Go.Proofs.Try.f42.name ≠ "runtime.NumGoroutine" := by decide
theorem laws_markTakenChain_v2.ok : EntryOK Go.Proofs.Try.prog 42 laws_markTakenChain_v2.ent :=
  entry_ok (E := laws_markTakenChain_v2.E) (EnvOK.of dok laws_markTakenChain_v2.fok) mixed laws_markTakenChain_v2.at_ laws_markTakenChain_v2.bd laws_markTakenChain_v2.nm laws_markTakenChain_v2.ls (by intro l hl; simp at hl) laws_markTakenChain_v2.eq
/-! ### loop.example/g00038/laws.heldBufS -/
noncomputable def laws_heldBufS.E2 : Env := ⟨D, [], [], []⟩
noncomputable def laws_heldBufS_l2_step (rec : (List (Int × Int × Bool)) → Int → Int → Option ((Int × Unit) ⊕ (Int × Unit))) (y0 : List (Int × Int × Bool)) (y1 : Int) (y2 : Int) : Option ((Int × Unit) ⊕ (Int × Unit)) :=
  let b1 : Bool := decide (y2 < (y0.length : Int))
  bif b1 then
    let e2 : Int × Int × Bool := rd R1 y0 y2
    bif decide (0 ≤ y2) && decide (y2 < (y0.length : Int)) then
      bif (e2.1 != y1) then
        some (Sum.inl (-1, ()))
      else
        let b3 : Bool := (e2.2.1 != (wrap64 (y1 + 1)))
        bif decide (0 ≤ y2) && decide (y2 < (y0.length : Int)) then
          bif b3 then
            some (Sum.inl (-1, ()))
          else
            let x4 : Int := (wrap64 ((wrap64 (y1 + 1)) + 1))
            bif (decide (0 ≤ y2) && decide (y2 < (y0.length : Int))) && (!((3 : Int) == 0)) then
              bif !(e2.2.2 == ((Int.tmod x4 3) == 0)) then
                some (Sum.inl (-1, ()))
              else
                rec y0 (wrap64 (x4 + 1)) (wrap64 (y2 + 1))
            else none
        else none
    else none
  else
    some (Sum.inr (y1, ()))
noncomputable def laws_heldBufS_l2 : Nat → (List (Int × Int × Bool)) → Int → Int → Option ((Int × Unit) ⊕ (Int × Unit))
  | 0 => fun _ _ _ => none
  | n + 1 => laws_heldBufS_l2_step (laws_heldBufS_l2 n)
noncomputable def laws_heldBufS_l2.ent : LEntry := ⟨(.cell (.val .bor (.slice (.pair (.int .i64) (.pair (.int .i64) (.bool))))) :: (.cell (.val .bor (.int .i64)) :: (sk 3 (.cell (.val .bor (.int .i64)) :: (sk 36 []))))), rk 42 [], [], [], [⟨none, sk 4 (.cell (.val .bor (.int .i64)) :: (sk 37 [])), rk 42 [], [], []⟩, ⟨some 0, sk 1 (.cell (.val .bor (.int .i64)) :: (sk 40 [])), rk 42 [], [], []⟩], fun v => laws_heldBufS_l2 K0 v.1 v.2.1 v.2.2.1⟩
theorem laws_heldBufS_l2.eq : ∀ rec v, evStep laws_heldBufS.E2 (bodyAt 2 Go.Proofs.Try.f67) laws_heldBufS_l2.ent.ins laws_heldBufS_l2.ent.rts laws_heldBufS_l2.ent.hm laws_heldBufS_l2.ent.nl laws_heldBufS_l2.ent.xs rec v = laws_heldBufS_l2_step (fun c0 c1 c2 => rec (c0, c1, c2, ())) v.1 v.2.1 v.2.2.1 := by intro rec v; kernel_rfl
noncomputable def laws_heldBufS.E : Env := ⟨D, [], [], [(2, laws_heldBufS_l2.ent)]⟩
noncomputable def laws_heldBufS (a0 : List (Int × Int × Bool)) (a1 : Int) : Option (Int × Unit) :=
  (laws_heldBufS_l2 K0 a0 a1 0).bind fun o5 =>
  match o5 with
  | Sum.inl p6 =>
    some (p6.1, ())
  | Sum.inr p7 =>
    some (p7.1, ())
noncomputable def laws_heldBufS.ent : Entry := ⟨[false, false], [.cell (.val .bor (.slice (.pair (.int .i64) (.pair (.int .i64) (.bool))))), .cell (.val .bor (.int .i64))], [.cell (.val .bor (.int .i64))], [], fun v => laws_heldBufS v.1 v.2.1⟩
theorem laws_heldBufS.eq : ∀ v, evFn laws_heldBufS.E Go.Proofs.Try.f67 laws_heldBufS.ent.ptrs laws_heldBufS.ent.ins laws_heldBufS.ent.rets laws_heldBufS.ent.outs v = laws_heldBufS.ent.f v := by intro v; kernel_rfl
theorem laws_heldBufS.fok : ∀ q ∈ ([] : List (Nat × Entry)), EntryOK Go.Proofs.Try.prog q.1 q.2 := by intro q hq; simp at hq
theorem laws_heldBufS_l2.it : ∀ n v, iter (evStep laws_heldBufS.E2 (bodyAt 2 Go.Proofs.Try.f67) laws_heldBufS_l2.ent.ins laws_heldBufS_l2.ent.rts laws_heldBufS_l2.ent.hm laws_heldBufS_l2.ent.nl laws_heldBufS_l2.ent.xs) n v = laws_heldBufS_l2 n v.1 v.2.1 v.2.2.1 := by
  intro n
  induction n with
  | zero => intro v; rfl
  | succ n ih =>
    intro v
    show (evStep laws_heldBufS.E2 (bodyAt 2 Go.Proofs.Try.f67) laws_heldBufS_l2.ent.ins laws_heldBufS_l2.ent.rts laws_heldBufS_l2.ent.hm laws_heldBufS_l2.ent.nl laws_heldBufS_l2.ent.xs) (iter (evStep laws_heldBufS.E2 (bodyAt 2 Go.Proofs.Try.f67) laws_heldBufS_l2.ent.ins laws_heldBufS_l2.ent.rts laws_heldBufS_l2.ent.hm laws_heldBufS_l2.ent.nl laws_heldBufS_l2.ent.xs) n) v = _
    rw [laws_heldBufS_l2.eq, show (fun c0 c1 c2 => iter (evStep laws_heldBufS.E2 (bodyAt 2 Go.Proofs.Try.f67) laws_heldBufS_l2.ent.ins laws_heldBufS_l2.ent.rts laws_heldBufS_l2.ent.hm laws_heldBufS_l2.ent.nl laws_heldBufS_l2.ent.xs) n (c0, c1, c2, ())) = laws_heldBufS_l2 n from by funext c0 c1 c2; exact ih _]
    rfl
theorem laws_heldBufS_l2.fr : firstRegion (bodyAt 2 Go.Proofs.Try.f67) = 2 := by kernel_rfl
theorem laws_heldBufS_l2.ls : loopsOf (bodyAt 2 Go.Proofs.Try.f67) = [] := by kernel_rfl
theorem laws_heldBufS_l2.lok {E : Env} (hpin : laws_heldBufS.E2.pin = E.pin) (hfind : find 2 E.loops = some laws_heldBufS_l2.ent) : LoopOK Go.Proofs.Try.prog E (bodyAt 2 Go.Proofs.Try.f67) :=
  loop_of (E1 := laws_heldBufS.E2) (EnvOK.of dok laws_heldBufS.fok) mixed hpin (by rw [laws_heldBufS_l2.fr]; exact hfind) laws_heldBufS_l2.ls (by intro l hl; simp at hl) (fun v => (laws_heldBufS_l2.it K0 v).symm)
theorem laws_heldBufS.ls : loopsOf (bodyOf Go.Proofs.Try.f67) = [bodyAt 2 Go.Proofs.Try.f67] := by kernel_rfl
theorem laws_heldBufS.at_ : Go.Proofs.Try.prog.funcs[67]? = some Go.Proofs.Try.f67 := by kernel_rfl
theorem laws_heldBufS.bd : Go.Proofs.Try.f67.body = some (bodyOf Go.Proofs.Try.f67) := by kernel_rfl
theorem laws_heldBufS.nm : Go.Proofs.Try.f67.name ≠ "runtime.NumGoroutine" := by decide
theorem laws_heldBufS.ok : EntryOK Go.Proofs.Try.prog 67 laws_heldBufS.ent :=
  entry_ok (E := laws_heldBufS.E) (EnvOK.of dok laws_heldBufS.fok) mixed laws_heldBufS.at_ laws_heldBufS.bd laws_heldBufS.nm laws_heldBufS.ls (by intro l hl; simp only [List.mem_singleton] at hl; subst hl; exact laws_heldBufS_l2.lok rfl rfl) laws_heldBufS.eq
/-! ### loop.example/g00038/laws.heldTakenChain -/
noncomputable def laws_heldTakenChain.E : Env := ⟨D, [], [(67, laws_heldBufS.ent)], []⟩
noncomputable def laws_heldTakenChain (a0 : Int) (a1 : Int) (a2 : List (Int × Int × Bool)) (a3 : Int) (a4 : Int) (a5 : Int) (a6 : Int) (a7 : Int) (a8 : Int) (a9 : Int) : Option (Int × Unit) :=
  (laws_heldBufS a2 a9).bind fun r1 =>
  bif decide (r1.1 < 0) then
    some (-1, ())
  else
    some (r1.1, ())
noncomputable def laws_heldTakenChain.ent : Entry := ⟨[false, false], [.agg [.val .bor (.int .i64), .val .bor (.int .i64), .val .bor (.slice (.pair (.int .i64) (.pair (.int .i64) (.bool)))), .val .bor (.int .i64), .val .bor (.int .i64), .val .bor (.int .i64), .val .bor (.int .i64), .val .bor (.int .i64), .val .bor (.int .i64)], .cell (.val .bor (.int .i64))], [.cell (.val .bor (.int .i64))], [], fun v => laws_heldTakenChain v.1 v.2.1 v.2.2.1 v.2.2.2.1 v.2.2.2.2.1 v.2.2.2.2.2.1 v.2.2.2.2.2.2.1 v.2.2.2.2.2.2.2.1 v.2.2.2.2.2.2.2.2.1 v.2.2.2.2.2.2.2.2.2.1⟩
theorem laws_heldTakenChain.eq : ∀ v, evFn laws_heldTakenChain.E Go.Proofs.Try.f43 laws_heldTakenChain.ent.ptrs laws_heldTakenChain.ent.ins laws_heldTakenChain.ent.rets laws_heldTakenChain.ent.outs v = laws_heldTakenChain.ent.f v := by intro v; kernel_rfl
theorem laws_heldTakenChain.fok : ∀ q ∈ [((67 : Nat), laws_heldBufS.ent)], EntryOK Go.Proofs.Try.prog q.1 q.2 := by
  intro q hq
  simp only [List.mem_cons, List.mem_nil_iff, or_false] at hq
  rcases hq with rfl
  · exact laws_heldBufS.ok
theorem laws_heldTakenChain.ls : loopsOf (bodyOf Go.Proofs.Try.f43) = [] := by kernel_rfl
theorem laws_heldTakenChain.at_ : Go.Proofs.Try.prog.funcs[43]? = some Go.Proofs.Try.f43 := by kernel_rfl
theorem laws_heldTakenChain.bd : Go.Proofs.Try.f43.body = some (bodyOf Go.Proofs.Try.f43) := by kernel_rfl
theorem laws_heldTakenChain.nm : Go.Proofs.Try.f43.name ≠ "runtime.NumGoroutine" := by decide
theorem laws_heldTakenChain.ok : EntryOK Go.Proofs.Try.prog 43 laws_heldTakenChain.ent :=
  entry_ok (E := laws_heldTakenChain.E) (EnvOK.of dok laws_heldTakenChain.fok) mixed laws_heldTakenChain.at_ laws_heldTakenChain.bd laws_heldTakenChain.nm laws_heldTakenChain.ls (by intro l hl; simp at hl) laws_heldTakenChain.eq
/-! ### loop.example/g00038/laws.FnExactTakeChain -/
noncomputable def laws_FnExactTakeChain.E : Env := ⟨D, [], [(16, laws_toQueue.ent), (39, spec_TakeChain.ent), (40, impl_TakeChain.ent), (41, laws_eqTakenChain.ent), (42, laws_markTakenChain_v2.ent), (43, laws_heldTakenChain.ent)], []⟩
noncomputable def laws_FnExactTakeChain (a0 : ByteArray) (a1 : Int) (a2 : Int) (a3 : Int) (a4 : Int) (a5 : Int) (a6 : Int) : Option (Bool × Unit) :=
  let b1 : Bool := decide ((a0.size : Int) > 1048576)
  bif b1 then
    some (true, ())
  else
    (laws_toQueue a1 a2 a3 a4 a5 a6).bind fun r2 =>
    (spec_TakeChain a0 r2.1 r2.2.1 r2.2.2.1 r2.2.2.2.1 r2.2.2.2.2.1 r2.2.2.2.2.2.1).bind fun r3 =>
    (laws_toQueue a1 a2 a3 a4 a5 a6).bind fun r4 =>
    (impl_TakeChain a0 r4.1 r4.2.1 r4.2.2.1 r4.2.2.2.1 r4.2.2.2.2.1 r4.2.2.2.2.2.1).bind fun r5 =>
    (laws_eqTakenChain r5.1 r5.2.1 r5.2.2.1 r5.2.2.2.1 r5.2.2.2.2.1 r5.2.2.2.2.2.1 r5.2.2.2.2.2.2.1 r5.2.2.2.2.2.2.2.1 r5.2.2.2.2.2.2.2.2.1 r3.1 r3.2.1 r3.2.2.1 r3.2.2.2.1 r3.2.2.2.2.1 r3.2.2.2.2.2.1 r3.2.2.2.2.2.2.1 r3.2.2.2.2.2.2.2.1 r3.2.2.2.2.2.2.2.2.1).bind fun r6 =>
    bif !r6.1 then
      some (false, ())
    else
      (laws_markTakenChain_v2 r5.1 r5.2.1 r5.2.2.1 r5.2.2.2.1 r5.2.2.2.2.1 r5.2.2.2.2.2.1 r5.2.2.2.2.2.2.1 r5.2.2.2.2.2.2.2.1 r5.2.2.2.2.2.2.2.2.1 1).bind fun r7 =>
      (laws_heldTakenChain r5.1 r5.2.1 r7.2.1 r5.2.2.2.1 r5.2.2.2.2.1 r5.2.2.2.2.2.1 r5.2.2.2.2.2.2.1 r5.2.2.2.2.2.2.2.1 r5.2.2.2.2.2.2.2.2.1 1).bind fun r8 =>
      bif decide (r8.1 < 0) then
        some (false, ())
      else
      bif (r8.1 != r7.1) then
        some (false, ())
      else
        (laws_toQueue a1 a2 a3 a4 a5 a6).bind fun r9 =>
        (impl_TakeChain a0 r9.1 r9.2.1 r9.2.2.1 r9.2.2.2.1 r9.2.2.2.2.1 r9.2.2.2.2.2.1).bind fun r10 =>
        (laws_eqTakenChain r10.1 r10.2.1 r10.2.2.1 r10.2.2.2.1 r10.2.2.2.2.1 r10.2.2.2.2.2.1 r10.2.2.2.2.2.2.1 r10.2.2.2.2.2.2.2.1 r10.2.2.2.2.2.2.2.2.1 r3.1 r3.2.1 r3.2.2.1 r3.2.2.2.1 r3.2.2.2.2.1 r3.2.2.2.2.2.1 r3.2.2.2.2.2.2.1 r3.2.2.2.2.2.2.2.1 r3.2.2.2.2.2.2.2.2.1).bind fun r11 =>
        bif !r11.1 then
          some (false, ())
        else
          (laws_heldTakenChain r5.1 r5.2.1 r7.2.1 r5.2.2.2.1 r5.2.2.2.2.1 r5.2.2.2.2.2.1 r5.2.2.2.2.2.2.1 r5.2.2.2.2.2.2.2.1 r5.2.2.2.2.2.2.2.2.1 1).bind fun r12 =>
          bif decide (r12.1 < 0) then
            some (false, ())
          else
          bif (r12.1 != r7.1) then
            some (false, ())
          else
            some (true, ())
noncomputable def laws_FnExactTakeChain.ent : Entry := ⟨[false, false], [.cell (.val .bor (.str)), .agg [.val .bor (.int .i64), .val .bor (.int .i64), .val .bor (.int .i64), .val .bor (.int .i64), .val .bor (.int .i64), .val .bor (.int .i64)]], [.cell (.val .bor (.bool))], [], fun v => laws_FnExactTakeChain v.1 v.2.1 v.2.2.1 v.2.2.2.1 v.2.2.2.2.1 v.2.2.2.2.2.1 v.2.2.2.2.2.2.1⟩
theorem laws_FnExactTakeChain.eq : ∀ v, evFn laws_FnExactTakeChain.E Go.Proofs.Try.f10 laws_FnExactTakeChain.ent.ptrs laws_FnExactTakeChain.ent.ins laws_FnExactTakeChain.ent.rets laws_FnExactTakeChain.ent.outs v = laws_FnExactTakeChain.ent.f v := by intro v; kernel_rfl
theorem laws_FnExactTakeChain.fok : ∀ q ∈ [((16 : Nat), laws_toQueue.ent), ((39 : Nat), spec_TakeChain.ent), ((40 : Nat), impl_TakeChain.ent), ((41 : Nat), laws_eqTakenChain.ent), ((42 : Nat), laws_markTakenChain_v2.ent), ((43 : Nat), laws_heldTakenChain.ent)], EntryOK Go.Proofs.Try.prog q.1 q.2 := by
  intro q hq
  simp only [List.mem_cons, List.mem_nil_iff, or_false] at hq
  rcases hq with rfl | rfl | rfl | rfl | rfl | rfl
  · exact laws_toQueue.ok
  · exact spec_TakeChain.ok
  · exact impl_TakeChain.ok
  · exact laws_eqTakenChain.ok
  · exact laws_markTakenChain_v2.ok
  · exact laws_heldTakenChain.ok
theorem laws_FnExactTakeChain.ls : loopsOf (bodyOf Go.Proofs.Try.f10) = [] := by kernel_rfl
theorem laws_FnExactTakeChain.at_ : Go.Proofs.Try.prog.funcs[10]? = some Go.Proofs.Try.f10 := by kernel_rfl
theorem laws_FnExactTakeChain.bd : Go.Proofs.Try.f10.body = some (bodyOf Go.Proofs.Try.f10) := by kernel_rfl
theorem laws_FnExactTakeChain.nm : Go.Proofs.Try.f10.name ≠ "runtime.NumGoroutine" := by decide
theorem laws_FnExactTakeChain.ok : EntryOK Go.Proofs.Try.prog 10 laws_FnExactTakeChain.ent :=
  entry_ok (E := laws_FnExactTakeChain.E) (EnvOK.of dok laws_FnExactTakeChain.fok) mixed laws_FnExactTakeChain.at_ laws_FnExactTakeChain.bd laws_FnExactTakeChain.nm laws_FnExactTakeChain.ls (by intro l hl; simp at hl) laws_FnExactTakeChain.eq
end Go.Ab.FnExactTakeChain