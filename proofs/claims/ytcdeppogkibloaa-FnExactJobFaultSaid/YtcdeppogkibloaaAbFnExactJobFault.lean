/- The functions that the law FnExactJobFault reaches, over plain values, and that each does what its code does: part 1 of 1. Without conditions. -/
import Derived.Test.YtcdeppogkibloaaProg
import Derived.Test.YtcdeppogkibloaaAbD
namespace Go.Ab.FnExactJobFault
open Go.RowKit
set_option linter.unusedVariables false
set_option maxRecDepth 100000
noncomputable def tds : List (Option TD) := [
  none,
  some ⟨.other, 1, .opq, 8, false⟩,
  some ⟨.int .i64, 1, .int .i64, 8, false⟩,
  some ⟨.int .i64, 1, .int .i64, 8, false⟩,
  some ⟨.bool, 1, .bool, 1, false⟩,
  some ⟨.int .u8, 1, .int .u8, 1, false⟩,
  some ⟨.int .u8, 1, .int .u8, 1, false⟩,
  some ⟨.struct [(0, 2), (1, 3), (2, 4), (3, 6)], 4, .pair (.int .i64) (.pair (.int .i64) (.pair (.bool) (.int .u8))), 24, true⟩,
  some ⟨.struct [(0, 2), (1, 3), (2, 4), (3, 6)], 4, .pair (.int .i64) (.pair (.int .i64) (.pair (.bool) (.int .u8))), 24, true⟩,
  some ⟨.str, 1, .str, 16, false⟩,
  some ⟨.str, 1, .str, 16, false⟩,
  some ⟨.str, 1, .str, 16, false⟩,
  some ⟨.int .u64, 1, .int .u64, 8, false⟩,
  none,
  none,
  some ⟨.ptr 95, 1, .opq, 8, false⟩,
  some ⟨.ptr 98, 1, .opq, 8, false⟩,
  some ⟨.ptr 108, 1, .opq, 8, false⟩,
  some ⟨.struct [(0, 17)], 1, .opq, 8, true⟩,
  some ⟨.struct [(0, 17)], 1, .opq, 8, true⟩,
  none,
  some ⟨.int .i32, 1, .int .i32, 4, false⟩,
  some ⟨.slice 60, 1, .slice (.pair (.str) (.pair (.str) (.pair (.slice (.int .i64)) (.pair (.slice (.str)) (.slice (.pair (.str) (.slice (.int .i64)))))))), 24, false⟩,
  some ⟨.struct [(0, 2), (1, 2), (2, 9), (3, 9)], 4, .pair (.int .i64) (.pair (.int .i64) (.pair (.str) (.str))), 48, true⟩,
  some ⟨.struct [(0, 2), (1, 2), (2, 9), (3, 9)], 4, .pair (.int .i64) (.pair (.int .i64) (.pair (.str) (.str))), 48, true⟩,
  some ⟨.struct [(0, 22), (1, 9), (2, 24)], 6, .pair (.slice (.pair (.str) (.pair (.str) (.pair (.slice (.int .i64)) (.pair (.slice (.str)) (.slice (.pair (.str) (.slice (.int .i64))))))))) (.pair (.str) (.pair (.int .i64) (.pair (.int .i64) (.pair (.str) (.str))))), 88, true⟩,
  some ⟨.struct [(0, 22), (1, 9), (2, 24)], 6, .pair (.slice (.pair (.str) (.pair (.str) (.pair (.slice (.int .i64)) (.pair (.slice (.str)) (.slice (.pair (.str) (.slice (.int .i64))))))))) (.pair (.str) (.pair (.int .i64) (.pair (.int .i64) (.pair (.str) (.str))))), 88, true⟩,
  some ⟨.other, 1, .opq, 8, false⟩,
  some ⟨.other, 1, .opq, 8, false⟩,
  some ⟨.slice 45, 1, .slice (.pair (.str) (.pair (.str) (.pair (.slice (.int .i64)) (.pair (.slice (.str)) (.slice (.pair (.str) (.slice (.int .i64)))))))), 24, false⟩,
  some ⟨.struct [(0, 2), (1, 2), (2, 9), (3, 9)], 4, .pair (.int .i64) (.pair (.int .i64) (.pair (.str) (.str))), 48, true⟩,
  some ⟨.struct [(0, 29), (1, 9), (2, 30)], 6, .pair (.slice (.pair (.str) (.pair (.str) (.pair (.slice (.int .i64)) (.pair (.slice (.str)) (.slice (.pair (.str) (.slice (.int .i64))))))))) (.pair (.str) (.pair (.int .i64) (.pair (.int .i64) (.pair (.str) (.str))))), 88, true⟩,
  some ⟨.struct [(0, 29), (1, 9), (2, 30)], 6, .pair (.slice (.pair (.str) (.pair (.str) (.pair (.slice (.int .i64)) (.pair (.slice (.str)) (.slice (.pair (.str) (.slice (.int .i64))))))))) (.pair (.str) (.pair (.int .i64) (.pair (.int .i64) (.pair (.str) (.str))))), 88, true⟩,
  some ⟨.other, 1, .opq, 8, false⟩,
  some ⟨.other, 1, .opq, 8, false⟩,
  some ⟨.other, 1, .opq, 8, false⟩,
  some ⟨.other, 1, .opq, 8, false⟩,
  some ⟨.other, 1, .opq, 8, false⟩,
  some ⟨.other, 1, .opq, 8, false⟩,
  some ⟨.other, 1, .opq, 8, false⟩,
  some ⟨.other, 1, .opq, 8, false⟩,
  some ⟨.slice 2, 1, .slice (.int .i64), 24, false⟩,
  some ⟨.slice 9, 1, .slice (.str), 24, false⟩,
  some ⟨.slice 75, 1, .slice (.pair (.str) (.slice (.int .i64))), 24, false⟩,
  some ⟨.struct [(0, 9), (1, 9), (2, 41), (3, 42), (4, 43)], 5, .pair (.str) (.pair (.str) (.pair (.slice (.int .i64)) (.pair (.slice (.str)) (.slice (.pair (.str) (.slice (.int .i64))))))), 104, true⟩,
  some ⟨.struct [(0, 9), (1, 9), (2, 41), (3, 42), (4, 43)], 5, .pair (.str) (.pair (.str) (.pair (.slice (.int .i64)) (.pair (.slice (.str)) (.slice (.pair (.str) (.slice (.int .i64))))))), 104, true⟩,
  some ⟨.other, 1, .opq, 8, false⟩,
  some ⟨.other, 1, .opq, 8, false⟩,
  some ⟨.other, 1, .opq, 8, false⟩,
  some ⟨.other, 1, .opq, 8, false⟩,
  some ⟨.other, 1, .opq, 8, false⟩,
  some ⟨.other, 1, .opq, 8, false⟩,
  some ⟨.other, 1, .opq, 8, false⟩,
  some ⟨.other, 1, .opq, 8, false⟩,
  some ⟨.other, 1, .opq, 8, false⟩,
  some ⟨.other, 1, .opq, 8, false⟩,
  some ⟨.other, 1, .opq, 8, false⟩,
  some ⟨.other, 1, .opq, 8, false⟩,
  some ⟨.slice 89, 1, .slice (.pair (.str) (.slice (.int .i64))), 24, false⟩,
  some ⟨.struct [(0, 9), (1, 9), (2, 41), (3, 42), (4, 58)], 5, .pair (.str) (.pair (.str) (.pair (.slice (.int .i64)) (.pair (.slice (.str)) (.slice (.pair (.str) (.slice (.int .i64))))))), 104, true⟩,
  some ⟨.struct [(0, 9), (1, 9), (2, 41), (3, 42), (4, 58)], 5, .pair (.str) (.pair (.str) (.pair (.slice (.int .i64)) (.pair (.slice (.str)) (.slice (.pair (.str) (.slice (.int .i64))))))), 104, true⟩,
  some ⟨.other, 1, .opq, 8, false⟩,
  some ⟨.other, 1, .opq, 8, false⟩,
  some ⟨.other, 1, .opq, 8, false⟩,
  some ⟨.other, 1, .opq, 8, false⟩,
  some ⟨.other, 1, .opq, 8, false⟩,
  some ⟨.other, 1, .opq, 8, false⟩,
  some ⟨.other, 1, .opq, 8, false⟩,
  some ⟨.other, 1, .opq, 8, false⟩,
  some ⟨.other, 1, .opq, 8, false⟩,
  some ⟨.other, 1, .opq, 8, false⟩,
  some ⟨.other, 1, .opq, 8, false⟩,
  some ⟨.other, 1, .opq, 8, false⟩,
  some ⟨.other, 1, .opq, 8, false⟩,
  some ⟨.struct [(0, 9), (1, 41)], 2, .pair (.str) (.slice (.int .i64)), 40, true⟩,
  some ⟨.struct [(0, 9), (1, 41)], 2, .pair (.str) (.slice (.int .i64)), 40, true⟩,
  some ⟨.other, 1, .opq, 8, false⟩,
  some ⟨.int .u64, 1, .int .u64, 8, false⟩,
  some ⟨.other, 1, .opq, 8, false⟩,
  some ⟨.other, 1, .opq, 8, false⟩,
  some ⟨.other, 1, .opq, 8, false⟩,
  some ⟨.slice 4, 1, .slice (.bool), 24, false⟩,
  some ⟨.other, 1, .opq, 8, false⟩,
  some ⟨.other, 1, .opq, 8, false⟩,
  some ⟨.other, 1, .opq, 8, false⟩,
  some ⟨.other, 1, .opq, 8, false⟩,
  some ⟨.other, 1, .opq, 8, false⟩,
  some ⟨.other, 1, .opq, 8, false⟩,
  some ⟨.other, 1, .opq, 8, false⟩,
  some ⟨.struct [(0, 9), (1, 41)], 2, .pair (.str) (.slice (.int .i64)), 40, true⟩,
  some ⟨.other, 1, .opq, 8, false⟩,
  some ⟨.other, 1, .opq, 8, false⟩,
  some ⟨.other, 1, .opq, 8, false⟩,
  some ⟨.other, 1, .opq, 8, false⟩,
  some ⟨.struct [(0, 17), (1, 17), (2, 17), (3, 9)], 4, .pair (.opq) (.pair (.opq) (.pair (.opq) (.str))), 40, true⟩,
  some ⟨.struct [(0, 17), (1, 17), (2, 17), (3, 9)], 4, .pair (.opq) (.pair (.opq) (.pair (.opq) (.str))), 40, true⟩,
  none,
  none,
  none,
  some ⟨.other, 1, .opq, 8, false⟩,
  some ⟨.int .u32, 1, .int .u32, 4, false⟩,
  some ⟨.int .u8, 1, .int .u8, 1, false⟩,
  some ⟨.int .u8, 1, .int .u8, 1, false⟩,
  some ⟨.other, 1, .opq, 8, false⟩,
  some ⟨.ptr 5, 1, .opq, 8, false⟩,
  some ⟨.int .i32, 1, .int .i32, 4, false⟩,
  some ⟨.int .i32, 1, .int .i32, 4, false⟩,
  some ⟨.struct [(0, 12), (1, 12), (2, 100), (3, 101), (4, 5), (5, 5), (6, 102), (7, 103), (8, 104), (9, 105), (10, 106)], 11, .pair (.int .u64) (.pair (.int .u64) (.pair (.int .u32) (.pair (.int .u8) (.pair (.int .u8) (.pair (.int .u8) (.pair (.int .u8) (.pair (.opq) (.pair (.opq) (.pair (.int .i32) (.int .i32)))))))))), 48, true⟩,
  some ⟨.struct [(0, 12), (1, 12), (2, 100), (3, 101), (4, 5), (5, 5), (6, 102), (7, 103), (8, 104), (9, 105), (10, 106)], 11, .pair (.int .u64) (.pair (.int .u64) (.pair (.int .u32) (.pair (.int .u8) (.pair (.int .u8) (.pair (.int .u8) (.pair (.int .u8) (.pair (.opq) (.pair (.opq) (.pair (.int .i32) (.int .i32)))))))))), 48, true⟩,
  some ⟨.other, 1, .opq, 8, false⟩]
noncomputable def D : TypeId → Option TD := nthD tds
noncomputable abbrev Pr : Program := Go.Proofs.Try.prog
theorem tdsOk : okTds Pr (nthD tds) 0 tds = true := by kernel_rfl
theorem dok : Dok Pr D := dok_of tdsOk
theorem mixed : Pr.follows .mixedOrders = true := by kernel_rfl
abbrev R1 : Ty := .pair (.str) (.pair (.str) (.pair (.slice (.int .i64)) (.pair (.slice (.str)) (.slice (.pair (.str) (.slice (.int .i64)))))))
abbrev R2 : Ty := .pair (.str) (.slice (.int .i64))
abbrev V1 : Type := ByteArray × ByteArray × List Int × List ByteArray × List (ByteArray × List Int)
abbrev V2 : Type := ByteArray × List Int
noncomputable abbrev f3 : Func := Go.Proofs.Try.f3
noncomputable abbrev f4 : Func := Go.Proofs.Try.f4
noncomputable abbrev f5 : Func := Go.Proofs.Try.f5
noncomputable abbrev f6 : Func := Go.Proofs.Try.f6
noncomputable abbrev f7 : Func := Go.Proofs.Try.f7
noncomputable abbrev f8 : Func := Go.Proofs.Try.f8
noncomputable abbrev f9 : Func := Go.Proofs.Try.f9
noncomputable abbrev f10 : Func := Go.Proofs.Try.f10
noncomputable abbrev f11 : Func := Go.Proofs.Try.f11
noncomputable abbrev f12 : Func := Go.Proofs.Try.f12
noncomputable abbrev f13 : Func := Go.Proofs.Try.f13
noncomputable abbrev f14 : Func := Go.Proofs.Try.f14
noncomputable abbrev f15 : Func := Go.Proofs.Try.f15
noncomputable abbrev f16 : Func := Go.Proofs.Try.f16
noncomputable abbrev f17 : Func := Go.Proofs.Try.f17
noncomputable abbrev f18 : Func := Go.Proofs.Try.f18
noncomputable abbrev f19 : Func := Go.Proofs.Try.f19
noncomputable abbrev f20 : Func := Go.Proofs.Try.f20
noncomputable abbrev f21 : Func := Go.Proofs.Try.f21
noncomputable abbrev f22 : Func := Go.Proofs.Try.f22
noncomputable abbrev f23 : Func := Go.Proofs.Try.f23
noncomputable abbrev f24 : Func := Go.Proofs.Try.f24
noncomputable abbrev f25 : Func := Go.Proofs.Try.f25
noncomputable abbrev f26 : Func := Go.Proofs.Try.f26
noncomputable abbrev f27 : Func := Go.Proofs.Try.f27
noncomputable abbrev f28 : Func := Go.Proofs.Try.f28
noncomputable abbrev f29 : Func := Go.Proofs.Try.f29
noncomputable abbrev f30 : Func := Go.Proofs.Try.f30
noncomputable abbrev f31 : Func := Go.Proofs.Try.f31
noncomputable abbrev f32 : Func := Go.Proofs.Try.f32
noncomputable abbrev f33 : Func := Go.Proofs.Try.f33
noncomputable abbrev f34 : Func := Go.Proofs.Try.f34
noncomputable abbrev f35 : Func := Go.Proofs.Try.f35
noncomputable abbrev f36 : Func := Go.Proofs.Try.f36
noncomputable abbrev f37 : Func := Go.Proofs.Try.f37
noncomputable abbrev f38 : Func := Go.Proofs.Try.f38
noncomputable abbrev f39 : Func := Go.Proofs.Try.f39
noncomputable abbrev f40 : Func := Go.Proofs.Try.f40
noncomputable abbrev f41 : Func := Go.Proofs.Try.f41
noncomputable abbrev f42 : Func := Go.Proofs.Try.f42
noncomputable abbrev f43 : Func := Go.Proofs.Try.f43
noncomputable abbrev f44 : Func := Go.Proofs.Try.f44
noncomputable abbrev f45 : Func := Go.Proofs.Try.f45
noncomputable abbrev f46 : Func := Go.Proofs.Try.f46
noncomputable abbrev f47 : Func := Go.Proofs.Try.f47
noncomputable abbrev f48 : Func := Go.Proofs.Try.f48
noncomputable abbrev f49 : Func := Go.Proofs.Try.f49
noncomputable abbrev f50 : Func := Go.Proofs.Try.f50
noncomputable abbrev f51 : Func := Go.Proofs.Try.f51
noncomputable abbrev f52 : Func := Go.Proofs.Try.f52
noncomputable abbrev f53 : Func := Go.Proofs.Try.f53
noncomputable abbrev f54 : Func := Go.Proofs.Try.f54
noncomputable abbrev f55 : Func := Go.Proofs.Try.f55
noncomputable abbrev f56 : Func := Go.Proofs.Try.f56
noncomputable abbrev f57 : Func := Go.Proofs.Try.f57
noncomputable abbrev f58 : Func := Go.Proofs.Try.f58
noncomputable abbrev f59 : Func := Go.Proofs.Try.f59
noncomputable abbrev f60 : Func := Go.Proofs.Try.f60
/-! ### loop.example/g00038/laws.szInt64S -/
noncomputable def laws_szInt64S.E : Env := ⟨D, [], [], []⟩
noncomputable def laws_szInt64S (a0 : List Int) (a1 : Int) : Option (Int × Unit) :=
 let x1 : Int := (wrap64 (a1 - (a0.length : Int)))
 bif decide (x1 < 0) then
  some (-1, ())
 else
  some (x1, ())
noncomputable def laws_szInt64S.ent : Entry := ⟨[false, false], [.cell (.val .bor (.slice (.int .i64))), .cell (.val .bor (.int .i64))], [.cell (.val .bor (.int .i64))], [], fun v => laws_szInt64S v.1 v.2.1⟩
theorem laws_szInt64S.eq : ∀ v, evFn laws_szInt64S.E f41 laws_szInt64S.ent.ptrs laws_szInt64S.ent.ins laws_szInt64S.ent.rets laws_szInt64S.ent.outs v = laws_szInt64S.ent.f v := by intro v; kernel_rfl
theorem laws_szInt64S.fok : ∀ q ∈ ([] : List (Nat × Entry)), EntryOK Pr q.1 q.2 := by intro q hq; simp at hq
theorem laws_szInt64S.ls : loopsOf (bodyOf f41) = [] := by kernel_rfl
theorem laws_szInt64S.ok : EntryOK Pr 41 laws_szInt64S.ent :=
 entry_ok (E := laws_szInt64S.E) (EnvOK.of dok laws_szInt64S.fok) mixed (fn := f41) (by kernel_rfl) (by kernel_rfl) (by decide) laws_szInt64S.ls (by intro l hl; simp at hl) laws_szInt64S.eq
/-! ### loop.example/g00038/laws.szStringS -/
noncomputable def laws_szStringS.E5 : Env := ⟨D, [], [], []⟩
noncomputable def laws_szStringS_l5_step (rec : List ByteArray → Int → Int → Option ((Int × Unit) ⊕ (Int × Unit))) (y0 : List ByteArray) (y1 : Int) (y2 : Int) : Option ((Int × Unit) ⊕ (Int × Unit)) :=
 let b2 : Bool := decide (y2 < (y0.length : Int))
 bif b2 then
  let x3 : Int := (wrap64 (y1 - ((rd (.str) y0 y2).size : Int)))
  bif decide (0 ≤ y2) && decide (y2 < (y0.length : Int)) then
   bif decide (x3 < 0) then
    some (Sum.inl (-1, ()))
   else
    rec y0 x3 (wrap64 (y2 + 1))
  else none
 else
  some (Sum.inr (y1, ()))
noncomputable def laws_szStringS_l5 : Nat → List ByteArray → Int → Int → Option ((Int × Unit) ⊕ (Int × Unit))
 | 0 => fun _ _ _ => none
 | n + 1 => laws_szStringS_l5_step (laws_szStringS_l5 n)
noncomputable def laws_szStringS_l5.ent : LEntry := ⟨(.cell (.val .bor (.slice (.str))) :: (.cell (.val .bor (.int .i64)) :: (sk 3 (.cell (.val .bor (.int .i64)) :: (sk 22 []))))), rk 28 [], [], [], [⟨none, sk 4 (.cell (.val .bor (.int .i64)) :: (sk 23 [])), rk 28 [], [], []⟩, ⟨some 0, sk 1 (.cell (.val .bor (.int .i64)) :: (sk 26 [])), rk 28 [], [], []⟩], fun v => laws_szStringS_l5 K0 v.1 v.2.1 v.2.2.1⟩
theorem laws_szStringS_l5.eq : ∀ rec v, evStep laws_szStringS.E5 (bodyAt 5 f42) laws_szStringS_l5.ent.ins laws_szStringS_l5.ent.rts laws_szStringS_l5.ent.hm laws_szStringS_l5.ent.nl laws_szStringS_l5.ent.xs rec v = laws_szStringS_l5_step (fun c0 c1 c2 => rec (c0, c1, c2, ())) v.1 v.2.1 v.2.2.1 := by intro rec v; kernel_rfl
noncomputable def laws_szStringS.E : Env := ⟨D, [], [], [(5, laws_szStringS_l5.ent)]⟩
noncomputable def laws_szStringS (a0 : List ByteArray) (a1 : Int) : Option (Int × Unit) :=
 let x1 : Int := (wrap64 (a1 - (a0.length : Int)))
 bif decide (x1 < 0) then
  some (-1, ())
 else
  (laws_szStringS_l5 K0 a0 x1 0).bind fun o4 =>
  match o4 with
  | Sum.inl p5 =>
   some (p5.1, ())
  | Sum.inr p6 =>
   some (p6.1, ())
noncomputable def laws_szStringS.ent : Entry := ⟨[false, false], [.cell (.val .bor (.slice (.str))), .cell (.val .bor (.int .i64))], [.cell (.val .bor (.int .i64))], [], fun v => laws_szStringS v.1 v.2.1⟩
theorem laws_szStringS.eq : ∀ v, evFn laws_szStringS.E f42 laws_szStringS.ent.ptrs laws_szStringS.ent.ins laws_szStringS.ent.rets laws_szStringS.ent.outs v = laws_szStringS.ent.f v := by intro v; kernel_rfl
theorem laws_szStringS.fok : ∀ q ∈ ([] : List (Nat × Entry)), EntryOK Pr q.1 q.2 := by intro q hq; simp at hq
theorem laws_szStringS_l5.it : ∀ n v, iter (evStep laws_szStringS.E5 (bodyAt 5 f42) laws_szStringS_l5.ent.ins laws_szStringS_l5.ent.rts laws_szStringS_l5.ent.hm laws_szStringS_l5.ent.nl laws_szStringS_l5.ent.xs) n v = laws_szStringS_l5 n v.1 v.2.1 v.2.2.1 := by
 intro n
 induction n with
 | zero => intro v; rfl
 | succ n ih =>
  intro v
  show (evStep laws_szStringS.E5 (bodyAt 5 f42) laws_szStringS_l5.ent.ins laws_szStringS_l5.ent.rts laws_szStringS_l5.ent.hm laws_szStringS_l5.ent.nl laws_szStringS_l5.ent.xs) (iter (evStep laws_szStringS.E5 (bodyAt 5 f42) laws_szStringS_l5.ent.ins laws_szStringS_l5.ent.rts laws_szStringS_l5.ent.hm laws_szStringS_l5.ent.nl laws_szStringS_l5.ent.xs) n) v = _
  rw [laws_szStringS_l5.eq, show (fun c0 c1 c2 => iter (evStep laws_szStringS.E5 (bodyAt 5 f42) laws_szStringS_l5.ent.ins laws_szStringS_l5.ent.rts laws_szStringS_l5.ent.hm laws_szStringS_l5.ent.nl laws_szStringS_l5.ent.xs) n (c0, c1, c2, ())) = laws_szStringS_l5 n from by funext c0 c1 c2; exact ih _]
  rfl
theorem laws_szStringS_l5.fr : firstRegion (bodyAt 5 f42) = 5 := by kernel_rfl
theorem laws_szStringS_l5.ls : loopsOf (bodyAt 5 f42) = [] := by kernel_rfl
theorem laws_szStringS_l5.lok {E : Env} (hpin : laws_szStringS.E5.pin = E.pin) (hfind : find 5 E.loops = some laws_szStringS_l5.ent) : LoopOK Pr E (bodyAt 5 f42) :=
 loop_of (E1 := laws_szStringS.E5) (EnvOK.of dok laws_szStringS.fok) mixed hpin (by rw [laws_szStringS_l5.fr]; exact hfind) laws_szStringS_l5.ls (by intro l hl; simp at hl) (fun v => (laws_szStringS_l5.it K0 v).symm)
theorem laws_szStringS.ls : loopsOf (bodyOf f42) = [bodyAt 5 f42] := by kernel_rfl
theorem laws_szStringS.ok : EntryOK Pr 42 laws_szStringS.ent :=
 entry_ok (E := laws_szStringS.E) (EnvOK.of dok laws_szStringS.fok) mixed (fn := f42) (by kernel_rfl) (by kernel_rfl) (by decide) laws_szStringS.ls (by intro l hl; simp only [List.mem_singleton] at hl; subst hl; exact laws_szStringS_l5.lok rfl rfl) laws_szStringS.eq
/-! ### loop.example/g00038/laws.szSnap -/
noncomputable def laws_szSnap.E : Env := ⟨D, [], [(41, laws_szInt64S.ent)], []⟩
noncomputable def laws_szSnap (a0 : ByteArray) (a1 : List Int) (a2 : Int) : Option (Int × Unit) :=
 let x1 : Int := (wrap64 (a2 - (a0.size : Int)))
 bif decide (x1 < 0) then
  some (-1, ())
 else
  (laws_szInt64S a1 x1).bind fun r2 =>
  bif decide (r2.1 < 0) then
   some (-1, ())
  else
   some (r2.1, ())
noncomputable def laws_szSnap.ent : Entry := ⟨[false, false], [.agg [.val .bor (.str), .val .bor (.slice (.int .i64))], .cell (.val .bor (.int .i64))], [.cell (.val .bor (.int .i64))], [], fun v => laws_szSnap v.1 v.2.1 v.2.2.1⟩
theorem laws_szSnap.eq : ∀ v, evFn laws_szSnap.E f57 laws_szSnap.ent.ptrs laws_szSnap.ent.ins laws_szSnap.ent.rets laws_szSnap.ent.outs v = laws_szSnap.ent.f v := by intro v; kernel_rfl
theorem laws_szSnap.fok : ∀ q ∈ [((41 : Nat), laws_szInt64S.ent)], EntryOK Pr q.1 q.2 := by
 intro q hq
 simp only [List.mem_cons, List.mem_nil_iff, or_false] at hq
 rcases hq with rfl
 · exact laws_szInt64S.ok
theorem laws_szSnap.ls : loopsOf (bodyOf f57) = [] := by kernel_rfl
theorem laws_szSnap.ok : EntryOK Pr 57 laws_szSnap.ent :=
 entry_ok (E := laws_szSnap.E) (EnvOK.of dok laws_szSnap.fok) mixed (fn := f57) (by kernel_rfl) (by kernel_rfl) (by decide) laws_szSnap.ls (by intro l hl; simp at hl) laws_szSnap.eq
/-! ### loop.example/g00038/laws.szSnapS -/
noncomputable def laws_szSnapS.E5 : Env := ⟨D, [], [(57, laws_szSnap.ent)], []⟩
noncomputable def laws_szSnapS_l5_step (rec : List V2 → Int → Int → Option ((Int × Unit) ⊕ (Int × Unit))) (y0 : List V2) (y1 : Int) (y2 : Int) : Option ((Int × Unit) ⊕ (Int × Unit)) :=
 let b2 : Bool := decide (y2 < (y0.length : Int))
 bif b2 then
  let e3 : V2 := rd R2 y0 y2
  (laws_szSnap e3.1 e3.2 y1).bind fun r4 =>
  bif decide (0 ≤ y2) && decide (y2 < (y0.length : Int)) then
   bif decide (r4.1 < 0) then
    some (Sum.inl (-1, ()))
   else
    rec y0 r4.1 (wrap64 (y2 + 1))
  else none
 else
  some (Sum.inr (y1, ()))
noncomputable def laws_szSnapS_l5 : Nat → List V2 → Int → Int → Option ((Int × Unit) ⊕ (Int × Unit))
 | 0 => fun _ _ _ => none
 | n + 1 => laws_szSnapS_l5_step (laws_szSnapS_l5 n)
noncomputable def laws_szSnapS_l5.ent : LEntry := ⟨(.cell (.val .bor (.slice R2)) :: (.cell (.val .bor (.int .i64)) :: (sk 3 (.cell (.val .bor (.int .i64)) :: (sk 21 []))))), rk 27 [], [], [], [⟨none, sk 4 (.cell (.val .bor (.int .i64)) :: (sk 22 [])), rk 27 [], [], []⟩, ⟨some 0, sk 1 (.cell (.val .bor (.int .i64)) :: (sk 25 [])), rk 27 [], [], []⟩], fun v => laws_szSnapS_l5 K0 v.1 v.2.1 v.2.2.1⟩
theorem laws_szSnapS_l5.eq : ∀ rec v, evStep laws_szSnapS.E5 (bodyAt 5 f43) laws_szSnapS_l5.ent.ins laws_szSnapS_l5.ent.rts laws_szSnapS_l5.ent.hm laws_szSnapS_l5.ent.nl laws_szSnapS_l5.ent.xs rec v = laws_szSnapS_l5_step (fun c0 c1 c2 => rec (c0, c1, c2, ())) v.1 v.2.1 v.2.2.1 := by intro rec v; kernel_rfl
noncomputable def laws_szSnapS.E : Env := ⟨D, [], [(57, laws_szSnap.ent)], [(5, laws_szSnapS_l5.ent)]⟩
noncomputable def laws_szSnapS (a0 : List V2) (a1 : Int) : Option (Int × Unit) :=
 let x1 : Int := (wrap64 (a1 - (a0.length : Int)))
 bif decide (x1 < 0) then
  some (-1, ())
 else
  (laws_szSnapS_l5 K0 a0 x1 0).bind fun o5 =>
  match o5 with
  | Sum.inl p6 =>
   some (p6.1, ())
  | Sum.inr p7 =>
   some (p7.1, ())
noncomputable def laws_szSnapS.ent : Entry := ⟨[false, false], [.cell (.val .bor (.slice R2)), .cell (.val .bor (.int .i64))], [.cell (.val .bor (.int .i64))], [], fun v => laws_szSnapS v.1 v.2.1⟩
theorem laws_szSnapS.eq : ∀ v, evFn laws_szSnapS.E f43 laws_szSnapS.ent.ptrs laws_szSnapS.ent.ins laws_szSnapS.ent.rets laws_szSnapS.ent.outs v = laws_szSnapS.ent.f v := by intro v; kernel_rfl
theorem laws_szSnapS.fok : ∀ q ∈ [((57 : Nat), laws_szSnap.ent)], EntryOK Pr q.1 q.2 := by
 intro q hq
 simp only [List.mem_cons, List.mem_nil_iff, or_false] at hq
 rcases hq with rfl
 · exact laws_szSnap.ok
theorem laws_szSnapS_l5.it : ∀ n v, iter (evStep laws_szSnapS.E5 (bodyAt 5 f43) laws_szSnapS_l5.ent.ins laws_szSnapS_l5.ent.rts laws_szSnapS_l5.ent.hm laws_szSnapS_l5.ent.nl laws_szSnapS_l5.ent.xs) n v = laws_szSnapS_l5 n v.1 v.2.1 v.2.2.1 := by
 intro n
 induction n with
 | zero => intro v; rfl
 | succ n ih =>
  intro v
  show (evStep laws_szSnapS.E5 (bodyAt 5 f43) laws_szSnapS_l5.ent.ins laws_szSnapS_l5.ent.rts laws_szSnapS_l5.ent.hm laws_szSnapS_l5.ent.nl laws_szSnapS_l5.ent.xs) (iter (evStep laws_szSnapS.E5 (bodyAt 5 f43) laws_szSnapS_l5.ent.ins laws_szSnapS_l5.ent.rts laws_szSnapS_l5.ent.hm laws_szSnapS_l5.ent.nl laws_szSnapS_l5.ent.xs) n) v = _
  rw [laws_szSnapS_l5.eq, show (fun c0 c1 c2 => iter (evStep laws_szSnapS.E5 (bodyAt 5 f43) laws_szSnapS_l5.ent.ins laws_szSnapS_l5.ent.rts laws_szSnapS_l5.ent.hm laws_szSnapS_l5.ent.nl laws_szSnapS_l5.ent.xs) n (c0, c1, c2, ())) = laws_szSnapS_l5 n from by funext c0 c1 c2; exact ih _]
  rfl
theorem laws_szSnapS_l5.fr : firstRegion (bodyAt 5 f43) = 5 := by kernel_rfl
theorem laws_szSnapS_l5.ls : loopsOf (bodyAt 5 f43) = [] := by kernel_rfl
theorem laws_szSnapS_l5.lok {E : Env} (hpin : laws_szSnapS.E5.pin = E.pin) (hfind : find 5 E.loops = some laws_szSnapS_l5.ent) : LoopOK Pr E (bodyAt 5 f43) :=
 loop_of (E1 := laws_szSnapS.E5) (EnvOK.of dok laws_szSnapS.fok) mixed hpin (by rw [laws_szSnapS_l5.fr]; exact hfind) laws_szSnapS_l5.ls (by intro l hl; simp at hl) (fun v => (laws_szSnapS_l5.it K0 v).symm)
theorem laws_szSnapS.ls : loopsOf (bodyOf f43) = [bodyAt 5 f43] := by kernel_rfl
theorem laws_szSnapS.ok : EntryOK Pr 43 laws_szSnapS.ent :=
 entry_ok (E := laws_szSnapS.E) (EnvOK.of dok laws_szSnapS.fok) mixed (fn := f43) (by kernel_rfl) (by kernel_rfl) (by decide) laws_szSnapS.ls (by intro l hl; simp only [List.mem_singleton] at hl; subst hl; exact laws_szSnapS_l5.lok rfl rfl) laws_szSnapS.eq
/-! ### loop.example/g00038/laws.szImage -/
noncomputable def laws_szImage.E : Env := ⟨D, [], [(41, laws_szInt64S.ent), (42, laws_szStringS.ent), (43, laws_szSnapS.ent)], []⟩
noncomputable def laws_szImage (a0 : ByteArray) (a1 : ByteArray) (a2 : List Int) (a3 : List ByteArray) (a4 : List V2) (a5 : Int) : Option (Int × Unit) :=
 let x1 : Int := (wrap64 (a5 - (a0.size : Int)))
 bif decide (x1 < 0) then
  some (-1, ())
 else
  let x2 : Int := (wrap64 (x1 - (a1.size : Int)))
  bif decide (x2 < 0) then
   some (-1, ())
  else
   (laws_szInt64S a2 x2).bind fun r3 =>
   bif decide (r3.1 < 0) then
    some (-1, ())
   else
    (laws_szStringS a3 r3.1).bind fun r4 =>
    bif decide (r4.1 < 0) then
     some (-1, ())
    else
     (laws_szSnapS a4 r4.1).bind fun r5 =>
     bif decide (r5.1 < 0) then
      some (-1, ())
     else
      some (r5.1, ())
noncomputable def laws_szImage.ent : Entry := ⟨[false, false], [.agg [.val .bor (.str), .val .bor (.str), .val .bor (.slice (.int .i64)), .val .bor (.slice (.str)), .val .bor (.slice R2)], .cell (.val .bor (.int .i64))], [.cell (.val .bor (.int .i64))], [], fun v => laws_szImage v.1 v.2.1 v.2.2.1 v.2.2.2.1 v.2.2.2.2.1 v.2.2.2.2.2.1⟩
theorem laws_szImage.eq : ∀ v, evFn laws_szImage.E f29 laws_szImage.ent.ptrs laws_szImage.ent.ins laws_szImage.ent.rets laws_szImage.ent.outs v = laws_szImage.ent.f v := by intro v; kernel_rfl
theorem laws_szImage.fok : ∀ q ∈ [((41 : Nat), laws_szInt64S.ent), ((42 : Nat), laws_szStringS.ent), ((43 : Nat), laws_szSnapS.ent)], EntryOK Pr q.1 q.2 := by
 intro q hq
 simp only [List.mem_cons, List.mem_nil_iff, or_false] at hq
 rcases hq with rfl | rfl | rfl
 · exact laws_szInt64S.ok
 · exact laws_szStringS.ok
 · exact laws_szSnapS.ok
theorem laws_szImage.ls : loopsOf (bodyOf f29) = [] := by kernel_rfl
theorem laws_szImage.ok : EntryOK Pr 29 laws_szImage.ent :=
 entry_ok (E := laws_szImage.E) (EnvOK.of dok laws_szImage.fok) mixed (fn := f29) (by kernel_rfl) (by kernel_rfl) (by decide) laws_szImage.ls (by intro l hl; simp at hl) laws_szImage.eq
/-! ### loop.example/g00038/laws.szImageS -/
noncomputable def laws_szImageS.E5 : Env := ⟨D, [], [(29, laws_szImage.ent)], []⟩
noncomputable def laws_szImageS_l5_step (rec : List V1 → Int → Int → Option ((Int × Unit) ⊕ (Int × Unit))) (y0 : List V1) (y1 : Int) (y2 : Int) : Option ((Int × Unit) ⊕ (Int × Unit)) :=
 let b2 : Bool := decide (y2 < (y0.length : Int))
 bif b2 then
  let e3 : V1 := rd R1 y0 y2
  (laws_szImage e3.1 e3.2.1 e3.2.2.1 e3.2.2.2.1 e3.2.2.2.2 y1).bind fun r4 =>
  bif decide (0 ≤ y2) && decide (y2 < (y0.length : Int)) then
   bif decide (r4.1 < 0) then
    some (Sum.inl (-1, ()))
   else
    rec y0 r4.1 (wrap64 (y2 + 1))
  else none
 else
  some (Sum.inr (y1, ()))
noncomputable def laws_szImageS_l5 : Nat → List V1 → Int → Int → Option ((Int × Unit) ⊕ (Int × Unit))
 | 0 => fun _ _ _ => none
 | n + 1 => laws_szImageS_l5_step (laws_szImageS_l5 n)
noncomputable def laws_szImageS_l5.ent : LEntry := ⟨(.cell (.val .bor (.slice R1)) :: (.cell (.val .bor (.int .i64)) :: (sk 3 (.cell (.val .bor (.int .i64)) :: (sk 21 []))))), rk 27 [], [], [], [⟨none, sk 4 (.cell (.val .bor (.int .i64)) :: (sk 22 [])), rk 27 [], [], []⟩, ⟨some 0, sk 1 (.cell (.val .bor (.int .i64)) :: (sk 25 [])), rk 27 [], [], []⟩], fun v => laws_szImageS_l5 K0 v.1 v.2.1 v.2.2.1⟩
theorem laws_szImageS_l5.eq : ∀ rec v, evStep laws_szImageS.E5 (bodyAt 5 f9) laws_szImageS_l5.ent.ins laws_szImageS_l5.ent.rts laws_szImageS_l5.ent.hm laws_szImageS_l5.ent.nl laws_szImageS_l5.ent.xs rec v = laws_szImageS_l5_step (fun c0 c1 c2 => rec (c0, c1, c2, ())) v.1 v.2.1 v.2.2.1 := by intro rec v; kernel_rfl
noncomputable def laws_szImageS.E : Env := ⟨D, [], [(29, laws_szImage.ent)], [(5, laws_szImageS_l5.ent)]⟩
noncomputable def laws_szImageS (a0 : List V1) (a1 : Int) : Option (Int × Unit) :=
 let x1 : Int := (wrap64 (a1 - (a0.length : Int)))
 bif decide (x1 < 0) then
  some (-1, ())
 else
  (laws_szImageS_l5 K0 a0 x1 0).bind fun o5 =>
  match o5 with
  | Sum.inl p6 =>
   some (p6.1, ())
  | Sum.inr p7 =>
   some (p7.1, ())
noncomputable def laws_szImageS.ent : Entry := ⟨[false, false], [.cell (.val .bor (.slice R1)), .cell (.val .bor (.int .i64))], [.cell (.val .bor (.int .i64))], [], fun v => laws_szImageS v.1 v.2.1⟩
theorem laws_szImageS.eq : ∀ v, evFn laws_szImageS.E f9 laws_szImageS.ent.ptrs laws_szImageS.ent.ins laws_szImageS.ent.rets laws_szImageS.ent.outs v = laws_szImageS.ent.f v := by intro v; kernel_rfl
theorem laws_szImageS.fok : ∀ q ∈ [((29 : Nat), laws_szImage.ent)], EntryOK Pr q.1 q.2 := by
 intro q hq
 simp only [List.mem_cons, List.mem_nil_iff, or_false] at hq
 rcases hq with rfl
 · exact laws_szImage.ok
theorem laws_szImageS_l5.it : ∀ n v, iter (evStep laws_szImageS.E5 (bodyAt 5 f9) laws_szImageS_l5.ent.ins laws_szImageS_l5.ent.rts laws_szImageS_l5.ent.hm laws_szImageS_l5.ent.nl laws_szImageS_l5.ent.xs) n v = laws_szImageS_l5 n v.1 v.2.1 v.2.2.1 := by
 intro n
 induction n with
 | zero => intro v; rfl
 | succ n ih =>
  intro v
  show (evStep laws_szImageS.E5 (bodyAt 5 f9) laws_szImageS_l5.ent.ins laws_szImageS_l5.ent.rts laws_szImageS_l5.ent.hm laws_szImageS_l5.ent.nl laws_szImageS_l5.ent.xs) (iter (evStep laws_szImageS.E5 (bodyAt 5 f9) laws_szImageS_l5.ent.ins laws_szImageS_l5.ent.rts laws_szImageS_l5.ent.hm laws_szImageS_l5.ent.nl laws_szImageS_l5.ent.xs) n) v = _
  rw [laws_szImageS_l5.eq, show (fun c0 c1 c2 => iter (evStep laws_szImageS.E5 (bodyAt 5 f9) laws_szImageS_l5.ent.ins laws_szImageS_l5.ent.rts laws_szImageS_l5.ent.hm laws_szImageS_l5.ent.nl laws_szImageS_l5.ent.xs) n (c0, c1, c2, ())) = laws_szImageS_l5 n from by funext c0 c1 c2; exact ih _]
  rfl
theorem laws_szImageS_l5.fr : firstRegion (bodyAt 5 f9) = 5 := by kernel_rfl
theorem laws_szImageS_l5.ls : loopsOf (bodyAt 5 f9) = [] := by kernel_rfl
theorem laws_szImageS_l5.lok {E : Env} (hpin : laws_szImageS.E5.pin = E.pin) (hfind : find 5 E.loops = some laws_szImageS_l5.ent) : LoopOK Pr E (bodyAt 5 f9) :=
 loop_of (E1 := laws_szImageS.E5) (EnvOK.of dok laws_szImageS.fok) mixed hpin (by rw [laws_szImageS_l5.fr]; exact hfind) laws_szImageS_l5.ls (by intro l hl; simp at hl) (fun v => (laws_szImageS_l5.it K0 v).symm)
theorem laws_szImageS.ls : loopsOf (bodyOf f9) = [bodyAt 5 f9] := by kernel_rfl
theorem laws_szImageS.ok : EntryOK Pr 9 laws_szImageS.ent :=
 entry_ok (E := laws_szImageS.E) (EnvOK.of dok laws_szImageS.fok) mixed (fn := f9) (by kernel_rfl) (by kernel_rfl) (by decide) laws_szImageS.ls (by intro l hl; simp only [List.mem_singleton] at hl; subst hl; exact laws_szImageS_l5.lok rfl rfl) laws_szImageS.eq
/-! ### loop.example/g00038/laws.szJob -/
noncomputable def laws_szJob.E : Env := ⟨D, [], [], []⟩
noncomputable def laws_szJob (a0 : Int) (a1 : Int) (a2 : ByteArray) (a3 : ByteArray) (a4 : Int) : Option (Int × Unit) :=
 let x1 : Int := (wrap64 (a4 - (a2.size : Int)))
 bif decide (x1 < 0) then
  some (-1, ())
 else
  let x2 : Int := (wrap64 (x1 - (a3.size : Int)))
  bif decide (x2 < 0) then
   some (-1, ())
  else
   some (x2, ())
noncomputable def laws_szJob.ent : Entry := ⟨[false, false], [.agg [.val .bor (.int .i64), .val .bor (.int .i64), .val .bor (.str), .val .bor (.str)], .cell (.val .bor (.int .i64))], [.cell (.val .bor (.int .i64))], [], fun v => laws_szJob v.1 v.2.1 v.2.2.1 v.2.2.2.1 v.2.2.2.2.1⟩
theorem laws_szJob.eq : ∀ v, evFn laws_szJob.E f10 laws_szJob.ent.ptrs laws_szJob.ent.ins laws_szJob.ent.rets laws_szJob.ent.outs v = laws_szJob.ent.f v := by intro v; kernel_rfl
theorem laws_szJob.fok : ∀ q ∈ ([] : List (Nat × Entry)), EntryOK Pr q.1 q.2 := by intro q hq; simp at hq
theorem laws_szJob.ls : loopsOf (bodyOf f10) = [] := by kernel_rfl
theorem laws_szJob.ok : EntryOK Pr 10 laws_szJob.ent :=
 entry_ok (E := laws_szJob.E) (EnvOK.of dok laws_szJob.fok) mixed (fn := f10) (by kernel_rfl) (by kernel_rfl) (by decide) laws_szJob.ls (by intro l hl; simp at hl) laws_szJob.eq
/-! ### loop.example/g00038/laws.szJobState -/
noncomputable def laws_szJobState.E : Env := ⟨D, [], [(9, laws_szImageS.ent), (10, laws_szJob.ent)], []⟩
noncomputable def laws_szJobState (a0 : List V1) (a1 : ByteArray) (a2 : Int) (a3 : Int) (a4 : ByteArray) (a5 : ByteArray) (a6 : Int) : Option (Int × Unit) :=
 (laws_szImageS a0 a6).bind fun r1 =>
 bif decide (r1.1 < 0) then
  some (-1, ())
 else
  let x2 : Int := (wrap64 (r1.1 - (a1.size : Int)))
  bif decide (x2 < 0) then
   some (-1, ())
  else
   (laws_szJob a2 a3 a4 a5 x2).bind fun r3 =>
   bif decide (r3.1 < 0) then
    some (-1, ())
   else
    some (r3.1, ())
noncomputable def laws_szJobState.ent : Entry := ⟨[false, false], [.agg [.val .bor (.slice R1), .val .bor (.str), .val .bor (.int .i64), .val .bor (.int .i64), .val .bor (.str), .val .bor (.str)], .cell (.val .bor (.int .i64))], [.cell (.val .bor (.int .i64))], [], fun v => laws_szJobState v.1 v.2.1 v.2.2.1 v.2.2.2.1 v.2.2.2.2.1 v.2.2.2.2.2.1 v.2.2.2.2.2.2.1⟩
theorem laws_szJobState.eq : ∀ v, evFn laws_szJobState.E f4 laws_szJobState.ent.ptrs laws_szJobState.ent.ins laws_szJobState.ent.rets laws_szJobState.ent.outs v = laws_szJobState.ent.f v := by intro v; kernel_rfl
theorem laws_szJobState.fok : ∀ q ∈ [((9 : Nat), laws_szImageS.ent), ((10 : Nat), laws_szJob.ent)], EntryOK Pr q.1 q.2 := by
 intro q hq
 simp only [List.mem_cons, List.mem_nil_iff, or_false] at hq
 rcases hq with rfl | rfl
 · exact laws_szImageS.ok
 · exact laws_szJob.ok
theorem laws_szJobState.ls : loopsOf (bodyOf f4) = [] := by kernel_rfl
theorem laws_szJobState.ok : EntryOK Pr 4 laws_szJobState.ent :=
 entry_ok (E := laws_szJobState.E) (EnvOK.of dok laws_szJobState.fok) mixed (fn := f4) (by kernel_rfl) (by kernel_rfl) (by decide) laws_szJobState.ls (by intro l hl; simp at hl) laws_szJobState.eq
/-! ### loop.example/g00038/laws.toInt64S -/
noncomputable def laws_toInt64S.E3 : Env := ⟨D, [], [], []⟩
noncomputable def laws_toInt64S_l3_step (rec : List Int → Int → List Int → Option ((List Int × Unit))) (y0 : List Int) (y1 : Int) (y2 : List Int) : Option ((List Int × Unit)) :=
 let b2 : Bool := decide (y1 < (y0.length : Int))
 bif b2 then
  let l3 : List Int := y2.set y1.toNat (rd (.int .i64) y0 y1)
  bif (decide (0 ≤ y1) && decide (y1 < (y0.length : Int))) && (decide (0 ≤ y1) && decide (y1 < (y2.length : Int))) then
   rec y0 (wrap64 (y1 + 1)) l3
  else none
 else
  some (y2, ())
noncomputable def laws_toInt64S_l3 : Nat → List Int → Int → List Int → Option ((List Int × Unit))
 | 0 => fun _ _ _ => none
 | n + 1 => laws_toInt64S_l3_step (laws_toInt64S_l3 n)
noncomputable def laws_toInt64S_l3.ent : LEntry := ⟨(.cell (.val .bor (.slice (.int .i64))) :: (sk 2 (.cell (.fix (.view 7 0)) :: (.cell (.val .bor (.int .i64)) :: (sk 17 []))))), rk 7 ([.val .own (.slice (.int .i64))] :: (rk 14 [])), [], [], [⟨some 0, sk 3 (.cell (.fix (.view 7 0)) :: (sk 18 [])), rk 7 ([.val .own (.slice (.int .i64))] :: (rk 14 [])), [], []⟩], fun v => laws_toInt64S_l3 K0 v.1 v.2.1 v.2.2.1⟩
theorem laws_toInt64S_l3.eq : ∀ rec v, evStep laws_toInt64S.E3 (bodyAt 3 f47) laws_toInt64S_l3.ent.ins laws_toInt64S_l3.ent.rts laws_toInt64S_l3.ent.hm laws_toInt64S_l3.ent.nl laws_toInt64S_l3.ent.xs rec v = laws_toInt64S_l3_step (fun c0 c1 c2 => rec (c0, c1, c2, ())) v.1 v.2.1 v.2.2.1 := by intro rec v; kernel_rfl
noncomputable def laws_toInt64S.E : Env := ⟨D, [], [], [(3, laws_toInt64S_l3.ent)]⟩
noncomputable def laws_toInt64S (a0 : List Int) : Option (List Int × Unit) :=
 let l1 : List Int := List.replicate ((a0.length : Int).toNat) (Ty.dflt (.int .i64))
 bif decide (0 ≤ (a0.length : Int)) && decide ((a0.length : Int) ≤ (a0.length : Int)) && roomy (a0.length : Int) 8 then
  (laws_toInt64S_l3 K0 a0 0 l1).bind fun o4 =>
  some (o4.1, ())
 else none
noncomputable def laws_toInt64S.ent : Entry := ⟨[false], [.cell (.val .bor (.slice (.int .i64)))], [.cell (.val .own (.slice (.int .i64)))], [], fun v => laws_toInt64S v.1⟩
theorem laws_toInt64S.eq : ∀ v, evFn laws_toInt64S.E f47 laws_toInt64S.ent.ptrs laws_toInt64S.ent.ins laws_toInt64S.ent.rets laws_toInt64S.ent.outs v = laws_toInt64S.ent.f v := by intro v; kernel_rfl
theorem laws_toInt64S.fok : ∀ q ∈ ([] : List (Nat × Entry)), EntryOK Pr q.1 q.2 := by intro q hq; simp at hq
theorem laws_toInt64S_l3.it : ∀ n v, iter (evStep laws_toInt64S.E3 (bodyAt 3 f47) laws_toInt64S_l3.ent.ins laws_toInt64S_l3.ent.rts laws_toInt64S_l3.ent.hm laws_toInt64S_l3.ent.nl laws_toInt64S_l3.ent.xs) n v = laws_toInt64S_l3 n v.1 v.2.1 v.2.2.1 := by
 intro n
 induction n with
 | zero => intro v; rfl
 | succ n ih =>
  intro v
  show (evStep laws_toInt64S.E3 (bodyAt 3 f47) laws_toInt64S_l3.ent.ins laws_toInt64S_l3.ent.rts laws_toInt64S_l3.ent.hm laws_toInt64S_l3.ent.nl laws_toInt64S_l3.ent.xs) (iter (evStep laws_toInt64S.E3 (bodyAt 3 f47) laws_toInt64S_l3.ent.ins laws_toInt64S_l3.ent.rts laws_toInt64S_l3.ent.hm laws_toInt64S_l3.ent.nl laws_toInt64S_l3.ent.xs) n) v = _
  rw [laws_toInt64S_l3.eq, show (fun c0 c1 c2 => iter (evStep laws_toInt64S.E3 (bodyAt 3 f47) laws_toInt64S_l3.ent.ins laws_toInt64S_l3.ent.rts laws_toInt64S_l3.ent.hm laws_toInt64S_l3.ent.nl laws_toInt64S_l3.ent.xs) n (c0, c1, c2, ())) = laws_toInt64S_l3 n from by funext c0 c1 c2; exact ih _]
  rfl
theorem laws_toInt64S_l3.fr : firstRegion (bodyAt 3 f47) = 3 := by kernel_rfl
theorem laws_toInt64S_l3.ls : loopsOf (bodyAt 3 f47) = [] := by kernel_rfl
theorem laws_toInt64S_l3.lok {E : Env} (hpin : laws_toInt64S.E3.pin = E.pin) (hfind : find 3 E.loops = some laws_toInt64S_l3.ent) : LoopOK Pr E (bodyAt 3 f47) :=
 loop_of (E1 := laws_toInt64S.E3) (EnvOK.of dok laws_toInt64S.fok) mixed hpin (by rw [laws_toInt64S_l3.fr]; exact hfind) laws_toInt64S_l3.ls (by intro l hl; simp at hl) (fun v => (laws_toInt64S_l3.it K0 v).symm)
theorem laws_toInt64S.ls : loopsOf (bodyOf f47) = [bodyAt 3 f47] := by kernel_rfl
theorem laws_toInt64S.ok : EntryOK Pr 47 laws_toInt64S.ent :=
 entry_ok (E := laws_toInt64S.E) (EnvOK.of dok laws_toInt64S.fok) mixed (fn := f47) (by kernel_rfl) (by kernel_rfl) (by decide) laws_toInt64S.ls (by intro l hl; simp only [List.mem_singleton] at hl; subst hl; exact laws_toInt64S_l3.lok rfl rfl) laws_toInt64S.eq
/-! ### loop.example/g00038/laws.toStringS -/
noncomputable def laws_toStringS.E3 : Env := ⟨D, [], [], []⟩
noncomputable def laws_toStringS_l3_step (rec : List ByteArray → Int → List ByteArray → Option ((List ByteArray × Unit))) (y0 : List ByteArray) (y1 : Int) (y2 : List ByteArray) : Option ((List ByteArray × Unit)) :=
 let b2 : Bool := decide (y1 < (y0.length : Int))
 bif b2 then
  let l3 : List ByteArray := y2.set y1.toNat (rd (.str) y0 y1)
  bif (decide (0 ≤ y1) && decide (y1 < (y0.length : Int))) && (decide (0 ≤ y1) && decide (y1 < (y2.length : Int))) then
   rec y0 (wrap64 (y1 + 1)) l3
  else none
 else
  some (y2, ())
noncomputable def laws_toStringS_l3 : Nat → List ByteArray → Int → List ByteArray → Option ((List ByteArray × Unit))
 | 0 => fun _ _ _ => none
 | n + 1 => laws_toStringS_l3_step (laws_toStringS_l3 n)
noncomputable def laws_toStringS_l3.ent : LEntry := ⟨(.cell (.val .bor (.slice (.str))) :: (sk 2 (.cell (.fix (.view 7 0)) :: (.cell (.val .bor (.int .i64)) :: (sk 17 []))))), rk 7 ([.val .own (.slice (.str))] :: (rk 14 [])), [], [], [⟨some 0, sk 3 (.cell (.fix (.view 7 0)) :: (sk 18 [])), rk 7 ([.val .own (.slice (.str))] :: (rk 14 [])), [], []⟩], fun v => laws_toStringS_l3 K0 v.1 v.2.1 v.2.2.1⟩
theorem laws_toStringS_l3.eq : ∀ rec v, evStep laws_toStringS.E3 (bodyAt 3 f48) laws_toStringS_l3.ent.ins laws_toStringS_l3.ent.rts laws_toStringS_l3.ent.hm laws_toStringS_l3.ent.nl laws_toStringS_l3.ent.xs rec v = laws_toStringS_l3_step (fun c0 c1 c2 => rec (c0, c1, c2, ())) v.1 v.2.1 v.2.2.1 := by intro rec v; kernel_rfl
noncomputable def laws_toStringS.E : Env := ⟨D, [], [], [(3, laws_toStringS_l3.ent)]⟩
noncomputable def laws_toStringS (a0 : List ByteArray) : Option (List ByteArray × Unit) :=
 let l1 : List ByteArray := List.replicate ((a0.length : Int).toNat) (Ty.dflt (.str))
 bif decide (0 ≤ (a0.length : Int)) && decide ((a0.length : Int) ≤ (a0.length : Int)) && roomy (a0.length : Int) 16 then
  (laws_toStringS_l3 K0 a0 0 l1).bind fun o4 =>
  some (o4.1, ())
 else none
noncomputable def laws_toStringS.ent : Entry := ⟨[false], [.cell (.val .bor (.slice (.str)))], [.cell (.val .own (.slice (.str)))], [], fun v => laws_toStringS v.1⟩
theorem laws_toStringS.eq : ∀ v, evFn laws_toStringS.E f48 laws_toStringS.ent.ptrs laws_toStringS.ent.ins laws_toStringS.ent.rets laws_toStringS.ent.outs v = laws_toStringS.ent.f v := by intro v; kernel_rfl
theorem laws_toStringS.fok : ∀ q ∈ ([] : List (Nat × Entry)), EntryOK Pr q.1 q.2 := by intro q hq; simp at hq
theorem laws_toStringS_l3.it : ∀ n v, iter (evStep laws_toStringS.E3 (bodyAt 3 f48) laws_toStringS_l3.ent.ins laws_toStringS_l3.ent.rts laws_toStringS_l3.ent.hm laws_toStringS_l3.ent.nl laws_toStringS_l3.ent.xs) n v = laws_toStringS_l3 n v.1 v.2.1 v.2.2.1 := by
 intro n
 induction n with
 | zero => intro v; rfl
 | succ n ih =>
  intro v
  show (evStep laws_toStringS.E3 (bodyAt 3 f48) laws_toStringS_l3.ent.ins laws_toStringS_l3.ent.rts laws_toStringS_l3.ent.hm laws_toStringS_l3.ent.nl laws_toStringS_l3.ent.xs) (iter (evStep laws_toStringS.E3 (bodyAt 3 f48) laws_toStringS_l3.ent.ins laws_toStringS_l3.ent.rts laws_toStringS_l3.ent.hm laws_toStringS_l3.ent.nl laws_toStringS_l3.ent.xs) n) v = _
  rw [laws_toStringS_l3.eq, show (fun c0 c1 c2 => iter (evStep laws_toStringS.E3 (bodyAt 3 f48) laws_toStringS_l3.ent.ins laws_toStringS_l3.ent.rts laws_toStringS_l3.ent.hm laws_toStringS_l3.ent.nl laws_toStringS_l3.ent.xs) n (c0, c1, c2, ())) = laws_toStringS_l3 n from by funext c0 c1 c2; exact ih _]
  rfl
theorem laws_toStringS_l3.fr : firstRegion (bodyAt 3 f48) = 3 := by kernel_rfl
theorem laws_toStringS_l3.ls : loopsOf (bodyAt 3 f48) = [] := by kernel_rfl
theorem laws_toStringS_l3.lok {E : Env} (hpin : laws_toStringS.E3.pin = E.pin) (hfind : find 3 E.loops = some laws_toStringS_l3.ent) : LoopOK Pr E (bodyAt 3 f48) :=
 loop_of (E1 := laws_toStringS.E3) (EnvOK.of dok laws_toStringS.fok) mixed hpin (by rw [laws_toStringS_l3.fr]; exact hfind) laws_toStringS_l3.ls (by intro l hl; simp at hl) (fun v => (laws_toStringS_l3.it K0 v).symm)
theorem laws_toStringS.ls : loopsOf (bodyOf f48) = [bodyAt 3 f48] := by kernel_rfl
theorem laws_toStringS.ok : EntryOK Pr 48 laws_toStringS.ent :=
 entry_ok (E := laws_toStringS.E) (EnvOK.of dok laws_toStringS.fok) mixed (fn := f48) (by kernel_rfl) (by kernel_rfl) (by decide) laws_toStringS.ls (by intro l hl; simp only [List.mem_singleton] at hl; subst hl; exact laws_toStringS_l3.lok rfl rfl) laws_toStringS.eq
/-! ### loop.example/g00038/laws.toSnap -/
noncomputable def laws_toSnap.E : Env := ⟨D, [], [(47, laws_toInt64S.ent)], []⟩
noncomputable def laws_toSnap (a0 : ByteArray) (a1 : List Int) : Option (ByteArray × List Int × Unit) :=
 (laws_toInt64S a1).bind fun r1 =>
 some (a0, r1.1, ())
noncomputable def laws_toSnap.ent : Entry := ⟨[false], [.agg [.val .bor (.str), .val .bor (.slice (.int .i64))]], [.agg [.val .bor (.str), .val .own (.slice (.int .i64))]], [], fun v => laws_toSnap v.1 v.2.1⟩
theorem laws_toSnap.eq : ∀ v, evFn laws_toSnap.E f58 laws_toSnap.ent.ptrs laws_toSnap.ent.ins laws_toSnap.ent.rets laws_toSnap.ent.outs v = laws_toSnap.ent.f v := by intro v; kernel_rfl
theorem laws_toSnap.fok : ∀ q ∈ [((47 : Nat), laws_toInt64S.ent)], EntryOK Pr q.1 q.2 := by
 intro q hq
 simp only [List.mem_cons, List.mem_nil_iff, or_false] at hq
 rcases hq with rfl
 · exact laws_toInt64S.ok
theorem laws_toSnap.ls : loopsOf (bodyOf f58) = [] := by kernel_rfl
theorem laws_toSnap.ok : EntryOK Pr 58 laws_toSnap.ent :=
 entry_ok (E := laws_toSnap.E) (EnvOK.of dok laws_toSnap.fok) mixed (fn := f58) (by kernel_rfl) (by kernel_rfl) (by decide) laws_toSnap.ls (by intro l hl; simp at hl) laws_toSnap.eq
/-! ### loop.example/g00038/laws.toSnapS -/
noncomputable def laws_toSnapS.E3 : Env := ⟨D, [], [(58, laws_toSnap.ent)], []⟩
noncomputable def laws_toSnapS_l3_step (rec : List V2 → Int → List V2 → Option ((List V2 × Unit))) (y0 : List V2) (y1 : Int) (y2 : List V2) : Option ((List V2 × Unit)) :=
 let b2 : Bool := decide (y1 < (y0.length : Int))
 bif b2 then
  let e3 : V2 := rd R2 y0 y1
  (laws_toSnap e3.1 e3.2).bind fun r4 =>
  let l6 : List V2 := y2.set y1.toNat (r4.1, r4.2.1)
  bif (decide (0 ≤ y1) && decide (y1 < (y0.length : Int))) && (decide (0 ≤ y1) && decide (y1 < (y2.length : Int))) then
   rec y0 (wrap64 (y1 + 1)) l6
  else none
 else
  some (y2, ())
noncomputable def laws_toSnapS_l3 : Nat → List V2 → Int → List V2 → Option ((List V2 × Unit))
 | 0 => fun _ _ _ => none
 | n + 1 => laws_toSnapS_l3_step (laws_toSnapS_l3 n)
noncomputable def laws_toSnapS_l3.ent : LEntry := ⟨(.cell (.val .bor (.slice R2)) :: (sk 2 (.cell (.fix (.view 7 0)) :: (.cell (.val .bor (.int .i64)) :: (sk 18 []))))), rk 7 ([.val .own (.slice R2)] :: (rk 15 [])), [], [], [⟨some 0, sk 3 (.cell (.fix (.view 7 0)) :: (sk 19 [])), rk 7 ([.val .own (.slice R2)] :: (rk 15 [])), [], []⟩], fun v => laws_toSnapS_l3 K0 v.1 v.2.1 v.2.2.1⟩
theorem laws_toSnapS_l3.eq : ∀ rec v, evStep laws_toSnapS.E3 (bodyAt 3 f49) laws_toSnapS_l3.ent.ins laws_toSnapS_l3.ent.rts laws_toSnapS_l3.ent.hm laws_toSnapS_l3.ent.nl laws_toSnapS_l3.ent.xs rec v = laws_toSnapS_l3_step (fun c0 c1 c2 => rec (c0, c1, c2, ())) v.1 v.2.1 v.2.2.1 := by intro rec v; kernel_rfl
noncomputable def laws_toSnapS.E : Env := ⟨D, [], [(58, laws_toSnap.ent)], [(3, laws_toSnapS_l3.ent)]⟩
noncomputable def laws_toSnapS (a0 : List V2) : Option (List V2 × Unit) :=
 let l1 : List V2 := List.replicate ((a0.length : Int).toNat) (Ty.dflt R2)
 bif decide (0 ≤ (a0.length : Int)) && decide ((a0.length : Int) ≤ (a0.length : Int)) && roomy (a0.length : Int) 40 then
  (laws_toSnapS_l3 K0 a0 0 l1).bind fun o7 =>
  some (o7.1, ())
 else none
noncomputable def laws_toSnapS.ent : Entry := ⟨[false], [.cell (.val .bor (.slice R2))], [.cell (.val .own (.slice R2))], [], fun v => laws_toSnapS v.1⟩
theorem laws_toSnapS.eq : ∀ v, evFn laws_toSnapS.E f49 laws_toSnapS.ent.ptrs laws_toSnapS.ent.ins laws_toSnapS.ent.rets laws_toSnapS.ent.outs v = laws_toSnapS.ent.f v := by intro v; kernel_rfl
theorem laws_toSnapS.fok : ∀ q ∈ [((58 : Nat), laws_toSnap.ent)], EntryOK Pr q.1 q.2 := by
 intro q hq
 simp only [List.mem_cons, List.mem_nil_iff, or_false] at hq
 rcases hq with rfl
 · exact laws_toSnap.ok
theorem laws_toSnapS_l3.it : ∀ n v, iter (evStep laws_toSnapS.E3 (bodyAt 3 f49) laws_toSnapS_l3.ent.ins laws_toSnapS_l3.ent.rts laws_toSnapS_l3.ent.hm laws_toSnapS_l3.ent.nl laws_toSnapS_l3.ent.xs) n v = laws_toSnapS_l3 n v.1 v.2.1 v.2.2.1 := by
 intro n
 induction n with
 | zero => intro v; rfl
 | succ n ih =>
  intro v
  show (evStep laws_toSnapS.E3 (bodyAt 3 f49) laws_toSnapS_l3.ent.ins laws_toSnapS_l3.ent.rts laws_toSnapS_l3.ent.hm laws_toSnapS_l3.ent.nl laws_toSnapS_l3.ent.xs) (iter (evStep laws_toSnapS.E3 (bodyAt 3 f49) laws_toSnapS_l3.ent.ins laws_toSnapS_l3.ent.rts laws_toSnapS_l3.ent.hm laws_toSnapS_l3.ent.nl laws_toSnapS_l3.ent.xs) n) v = _
  rw [laws_toSnapS_l3.eq, show (fun c0 c1 c2 => iter (evStep laws_toSnapS.E3 (bodyAt 3 f49) laws_toSnapS_l3.ent.ins laws_toSnapS_l3.ent.rts laws_toSnapS_l3.ent.hm laws_toSnapS_l3.ent.nl laws_toSnapS_l3.ent.xs) n (c0, c1, c2, ())) = laws_toSnapS_l3 n from by funext c0 c1 c2; exact ih _]
  rfl
theorem laws_toSnapS_l3.fr : firstRegion (bodyAt 3 f49) = 3 := by kernel_rfl
theorem laws_toSnapS_l3.ls : loopsOf (bodyAt 3 f49) = [] := by kernel_rfl
theorem laws_toSnapS_l3.lok {E : Env} (hpin : laws_toSnapS.E3.pin = E.pin) (hfind : find 3 E.loops = some laws_toSnapS_l3.ent) : LoopOK Pr E (bodyAt 3 f49) :=
 loop_of (E1 := laws_toSnapS.E3) (EnvOK.of dok laws_toSnapS.fok) mixed hpin (by rw [laws_toSnapS_l3.fr]; exact hfind) laws_toSnapS_l3.ls (by intro l hl; simp at hl) (fun v => (laws_toSnapS_l3.it K0 v).symm)
theorem laws_toSnapS.ls : loopsOf (bodyOf f49) = [bodyAt 3 f49] := by kernel_rfl
theorem laws_toSnapS.ok : EntryOK Pr 49 laws_toSnapS.ent :=
 entry_ok (E := laws_toSnapS.E) (EnvOK.of dok laws_toSnapS.fok) mixed (fn := f49) (by kernel_rfl) (by kernel_rfl) (by decide) laws_toSnapS.ls (by intro l hl; simp only [List.mem_singleton] at hl; subst hl; exact laws_toSnapS_l3.lok rfl rfl) laws_toSnapS.eq
/-! ### loop.example/g00038/laws.toImage -/
noncomputable def laws_toImage.E : Env := ⟨D, [], [(47, laws_toInt64S.ent), (48, laws_toStringS.ent), (49, laws_toSnapS.ent)], []⟩
noncomputable def laws_toImage (a0 : ByteArray) (a1 : ByteArray) (a2 : List Int) (a3 : List ByteArray) (a4 : List V2) : Option (ByteArray × ByteArray × List Int × List ByteArray × List V2 × Unit) :=
 (laws_toInt64S a2).bind fun r1 =>
 (laws_toStringS a3).bind fun r2 =>
 (laws_toSnapS a4).bind fun r3 =>
 some (a0, a1, r1.1, r2.1, r3.1, ())
noncomputable def laws_toImage.ent : Entry := ⟨[false], [.agg [.val .bor (.str), .val .bor (.str), .val .bor (.slice (.int .i64)), .val .bor (.slice (.str)), .val .bor (.slice R2)]], [.agg [.val .bor (.str), .val .bor (.str), .val .own (.slice (.int .i64)), .val .own (.slice (.str)), .val .own (.slice R2)]], [], fun v => laws_toImage v.1 v.2.1 v.2.2.1 v.2.2.2.1 v.2.2.2.2.1⟩
theorem laws_toImage.eq : ∀ v, evFn laws_toImage.E f34 laws_toImage.ent.ptrs laws_toImage.ent.ins laws_toImage.ent.rets laws_toImage.ent.outs v = laws_toImage.ent.f v := by intro v; kernel_rfl
theorem laws_toImage.fok : ∀ q ∈ [((47 : Nat), laws_toInt64S.ent), ((48 : Nat), laws_toStringS.ent), ((49 : Nat), laws_toSnapS.ent)], EntryOK Pr q.1 q.2 := by
 intro q hq
 simp only [List.mem_cons, List.mem_nil_iff, or_false] at hq
 rcases hq with rfl | rfl | rfl
 · exact laws_toInt64S.ok
 · exact laws_toStringS.ok
 · exact laws_toSnapS.ok
theorem laws_toImage.ls : loopsOf (bodyOf f34) = [] := by kernel_rfl
theorem laws_toImage.ok : EntryOK Pr 34 laws_toImage.ent :=
 entry_ok (E := laws_toImage.E) (EnvOK.of dok laws_toImage.fok) mixed (fn := f34) (by kernel_rfl) (by kernel_rfl) (by decide) laws_toImage.ls (by intro l hl; simp at hl) laws_toImage.eq
/-! ### loop.example/g00038/laws.toImageS -/
noncomputable def laws_toImageS.E3 : Env := ⟨D, [], [(34, laws_toImage.ent)], []⟩
noncomputable def laws_toImageS_l3_step (rec : List V1 → Int → List V1 → Option ((List V1 × Unit))) (y0 : List V1) (y1 : Int) (y2 : List V1) : Option ((List V1 × Unit)) :=
 let b2 : Bool := decide (y1 < (y0.length : Int))
 bif b2 then
  let e3 : V1 := rd R1 y0 y1
  (laws_toImage e3.1 e3.2.1 e3.2.2.1 e3.2.2.2.1 e3.2.2.2.2).bind fun r4 =>
  let l6 : List V1 := y2.set y1.toNat (r4.1, r4.2.1, r4.2.2.1, r4.2.2.2.1, r4.2.2.2.2.1)
  bif (decide (0 ≤ y1) && decide (y1 < (y0.length : Int))) && (decide (0 ≤ y1) && decide (y1 < (y2.length : Int))) then
   rec y0 (wrap64 (y1 + 1)) l6
  else none
 else
  some (y2, ())
noncomputable def laws_toImageS_l3 : Nat → List V1 → Int → List V1 → Option ((List V1 × Unit))
 | 0 => fun _ _ _ => none
 | n + 1 => laws_toImageS_l3_step (laws_toImageS_l3 n)
noncomputable def laws_toImageS_l3.ent : LEntry := ⟨(.cell (.val .bor (.slice R1)) :: (sk 2 (.cell (.fix (.view 7 0)) :: (.cell (.val .bor (.int .i64)) :: (sk 18 []))))), rk 7 ([.val .own (.slice R1)] :: (rk 15 [])), [], [], [⟨some 0, sk 3 (.cell (.fix (.view 7 0)) :: (sk 19 [])), rk 7 ([.val .own (.slice R1)] :: (rk 15 [])), [], []⟩], fun v => laws_toImageS_l3 K0 v.1 v.2.1 v.2.2.1⟩
theorem laws_toImageS_l3.eq : ∀ rec v, evStep laws_toImageS.E3 (bodyAt 3 f17) laws_toImageS_l3.ent.ins laws_toImageS_l3.ent.rts laws_toImageS_l3.ent.hm laws_toImageS_l3.ent.nl laws_toImageS_l3.ent.xs rec v = laws_toImageS_l3_step (fun c0 c1 c2 => rec (c0, c1, c2, ())) v.1 v.2.1 v.2.2.1 := by intro rec v; kernel_rfl
noncomputable def laws_toImageS.E : Env := ⟨D, [], [(34, laws_toImage.ent)], [(3, laws_toImageS_l3.ent)]⟩
noncomputable def laws_toImageS (a0 : List V1) : Option (List V1 × Unit) :=
 let l1 : List V1 := List.replicate ((a0.length : Int).toNat) (Ty.dflt R1)
 bif decide (0 ≤ (a0.length : Int)) && decide ((a0.length : Int) ≤ (a0.length : Int)) && roomy (a0.length : Int) 104 then
  (laws_toImageS_l3 K0 a0 0 l1).bind fun o7 =>
  some (o7.1, ())
 else none
noncomputable def laws_toImageS.ent : Entry := ⟨[false], [.cell (.val .bor (.slice R1))], [.cell (.val .own (.slice R1))], [], fun v => laws_toImageS v.1⟩
theorem laws_toImageS.eq : ∀ v, evFn laws_toImageS.E f17 laws_toImageS.ent.ptrs laws_toImageS.ent.ins laws_toImageS.ent.rets laws_toImageS.ent.outs v = laws_toImageS.ent.f v := by intro v; kernel_rfl
theorem laws_toImageS.fok : ∀ q ∈ [((34 : Nat), laws_toImage.ent)], EntryOK Pr q.1 q.2 := by
 intro q hq
 simp only [List.mem_cons, List.mem_nil_iff, or_false] at hq
 rcases hq with rfl
 · exact laws_toImage.ok
theorem laws_toImageS_l3.it : ∀ n v, iter (evStep laws_toImageS.E3 (bodyAt 3 f17) laws_toImageS_l3.ent.ins laws_toImageS_l3.ent.rts laws_toImageS_l3.ent.hm laws_toImageS_l3.ent.nl laws_toImageS_l3.ent.xs) n v = laws_toImageS_l3 n v.1 v.2.1 v.2.2.1 := by
 intro n
 induction n with
 | zero => intro v; rfl
 | succ n ih =>
  intro v
  show (evStep laws_toImageS.E3 (bodyAt 3 f17) laws_toImageS_l3.ent.ins laws_toImageS_l3.ent.rts laws_toImageS_l3.ent.hm laws_toImageS_l3.ent.nl laws_toImageS_l3.ent.xs) (iter (evStep laws_toImageS.E3 (bodyAt 3 f17) laws_toImageS_l3.ent.ins laws_toImageS_l3.ent.rts laws_toImageS_l3.ent.hm laws_toImageS_l3.ent.nl laws_toImageS_l3.ent.xs) n) v = _
  rw [laws_toImageS_l3.eq, show (fun c0 c1 c2 => iter (evStep laws_toImageS.E3 (bodyAt 3 f17) laws_toImageS_l3.ent.ins laws_toImageS_l3.ent.rts laws_toImageS_l3.ent.hm laws_toImageS_l3.ent.nl laws_toImageS_l3.ent.xs) n (c0, c1, c2, ())) = laws_toImageS_l3 n from by funext c0 c1 c2; exact ih _]
  rfl
theorem laws_toImageS_l3.fr : firstRegion (bodyAt 3 f17) = 3 := by kernel_rfl
theorem laws_toImageS_l3.ls : loopsOf (bodyAt 3 f17) = [] := by kernel_rfl
theorem laws_toImageS_l3.lok {E : Env} (hpin : laws_toImageS.E3.pin = E.pin) (hfind : find 3 E.loops = some laws_toImageS_l3.ent) : LoopOK Pr E (bodyAt 3 f17) :=
 loop_of (E1 := laws_toImageS.E3) (EnvOK.of dok laws_toImageS.fok) mixed hpin (by rw [laws_toImageS_l3.fr]; exact hfind) laws_toImageS_l3.ls (by intro l hl; simp at hl) (fun v => (laws_toImageS_l3.it K0 v).symm)
theorem laws_toImageS.ls : loopsOf (bodyOf f17) = [bodyAt 3 f17] := by kernel_rfl
theorem laws_toImageS.ok : EntryOK Pr 17 laws_toImageS.ent :=
 entry_ok (E := laws_toImageS.E) (EnvOK.of dok laws_toImageS.fok) mixed (fn := f17) (by kernel_rfl) (by kernel_rfl) (by decide) laws_toImageS.ls (by intro l hl; simp only [List.mem_singleton] at hl; subst hl; exact laws_toImageS_l3.lok rfl rfl) laws_toImageS.eq
/-! ### loop.example/g00038/laws.toJob -/
noncomputable def laws_toJob.E : Env := ⟨D, [], [], []⟩
noncomputable def laws_toJob (a0 : Int) (a1 : Int) (a2 : ByteArray) (a3 : ByteArray) : Option (Int × Int × ByteArray × ByteArray × Unit) :=
 some (a0, a1, a2, a3, ())
noncomputable def laws_toJob.ent : Entry := ⟨[false], [.agg [.val .bor (.int .i64), .val .bor (.int .i64), .val .bor (.str), .val .bor (.str)]], [.agg [.val .bor (.int .i64), .val .bor (.int .i64), .val .bor (.str), .val .bor (.str)]], [], fun v => laws_toJob v.1 v.2.1 v.2.2.1 v.2.2.2.1⟩
theorem laws_toJob.eq : ∀ v, evFn laws_toJob.E f18 laws_toJob.ent.ptrs laws_toJob.ent.ins laws_toJob.ent.rets laws_toJob.ent.outs v = laws_toJob.ent.f v := by intro v; kernel_rfl
theorem laws_toJob.fok : ∀ q ∈ ([] : List (Nat × Entry)), EntryOK Pr q.1 q.2 := by intro q hq; simp at hq
theorem laws_toJob.ls : loopsOf (bodyOf f18) = [] := by kernel_rfl
theorem laws_toJob.ok : EntryOK Pr 18 laws_toJob.ent :=
 entry_ok (E := laws_toJob.E) (EnvOK.of dok laws_toJob.fok) mixed (fn := f18) (by kernel_rfl) (by kernel_rfl) (by decide) laws_toJob.ls (by intro l hl; simp at hl) laws_toJob.eq
/-! ### loop.example/g00038/laws.toJobState -/
noncomputable def laws_toJobState.E : Env := ⟨D, [], [(17, laws_toImageS.ent), (18, laws_toJob.ent)], []⟩
noncomputable def laws_toJobState (a0 : List V1) (a1 : ByteArray) (a2 : Int) (a3 : Int) (a4 : ByteArray) (a5 : ByteArray) : Option (List V1 × ByteArray × Int × Int × ByteArray × ByteArray × Unit) :=
 (laws_toImageS a0).bind fun r1 =>
 (laws_toJob a2 a3 a4 a5).bind fun r2 =>
 some (r1.1, a1, r2.1, r2.2.1, r2.2.2.1, r2.2.2.2.1, ())
noncomputable def laws_toJobState.ent : Entry := ⟨[false], [.agg [.val .bor (.slice R1), .val .bor (.str), .val .bor (.int .i64), .val .bor (.int .i64), .val .bor (.str), .val .bor (.str)]], [.agg [.val .own (.slice R1), .val .bor (.str), .val .bor (.int .i64), .val .bor (.int .i64), .val .bor (.str), .val .bor (.str)]], [], fun v => laws_toJobState v.1 v.2.1 v.2.2.1 v.2.2.2.1 v.2.2.2.2.1 v.2.2.2.2.2.1⟩
theorem laws_toJobState.eq : ∀ v, evFn laws_toJobState.E f6 laws_toJobState.ent.ptrs laws_toJobState.ent.ins laws_toJobState.ent.rets laws_toJobState.ent.outs v = laws_toJobState.ent.f v := by intro v; kernel_rfl
theorem laws_toJobState.fok : ∀ q ∈ [((17 : Nat), laws_toImageS.ent), ((18 : Nat), laws_toJob.ent)], EntryOK Pr q.1 q.2 := by
 intro q hq
 simp only [List.mem_cons, List.mem_nil_iff, or_false] at hq
 rcases hq with rfl | rfl
 · exact laws_toImageS.ok
 · exact laws_toJob.ok
theorem laws_toJobState.ls : loopsOf (bodyOf f6) = [] := by kernel_rfl
theorem laws_toJobState.ok : EntryOK Pr 6 laws_toJobState.ent :=
 entry_ok (E := laws_toJobState.E) (EnvOK.of dok laws_toJobState.fok) mixed (fn := f6) (by kernel_rfl) (by kernel_rfl) (by decide) laws_toJobState.ls (by intro l hl; simp at hl) laws_toJobState.eq
/-! ### loop.example/g00038/spec.l13Name -/
noncomputable def spec_l13Name.E4 : Env := ⟨D, [], [], []⟩
noncomputable def spec_l13Name_l4_step (rec : ByteArray → Int → Option ((Bool × Unit) ⊕ (Unit))) (y0 : ByteArray) (y1 : Int) : Option ((Bool × Unit) ⊕ (Unit)) :=
 let b3 : Bool := decide (y1 < (y0.size : Int))
 bif b3 then
  bif decide (0 ≤ y1) && decide (y1 < (y0.size : Int)) then
   let b4 : Bool := (decide (bt y0 y1 ≥ 97) && decide (bt y0 y1 ≤ 122))
   let b5 : Bool := (decide (bt y0 y1 ≥ 48) && decide (bt y0 y1 ≤ 57))
   let b6 : Bool := ((b4 || b5) || (bt y0 y1 == 45))
   bif !b6 then
    some (Sum.inl (false, ()))
   else
    rec y0 (wrap64 (y1 + 1))
  else none
 else
  some (Sum.inr ())
noncomputable def spec_l13Name_l4 : Nat → ByteArray → Int → Option ((Bool × Unit) ⊕ (Unit))
 | 0 => fun _ _ => none
 | n + 1 => spec_l13Name_l4_step (spec_l13Name_l4 n)
noncomputable def spec_l13Name_l4.ent : LEntry := ⟨(.cell (.val .bor (.str)) :: (sk 2 (.cell (.val .bor (.int .i64)) :: (sk 37 [])))), rk 41 [], [], [], [⟨none, sk 2 (.cell (.val .bor (.bool)) :: (sk 38 [])), rk 41 [], [], []⟩, ⟨some 0, sk 41 [], rk 41 [], [], []⟩], fun v => spec_l13Name_l4 K0 v.1 v.2.1⟩
theorem spec_l13Name_l4.eq : ∀ rec v, evStep spec_l13Name.E4 (bodyAt 4 f44) spec_l13Name_l4.ent.ins spec_l13Name_l4.ent.rts spec_l13Name_l4.ent.hm spec_l13Name_l4.ent.nl spec_l13Name_l4.ent.xs rec v = spec_l13Name_l4_step (fun c0 c1 => rec (c0, c1, ())) v.1 v.2.1 := by intro rec v; kernel_rfl
noncomputable def spec_l13Name.E : Env := ⟨D, [], [], [(4, spec_l13Name_l4.ent)]⟩
noncomputable def spec_l13Name (a0 : ByteArray) : Option (Bool × Unit) :=
 let b1 : Bool := decide ((a0.size : Int) < 1)
 let b2 : Bool := decide ((a0.size : Int) > 20)
 bif (b1 || b2) then
  some (false, ())
 else
  (spec_l13Name_l4 K0 a0 0).bind fun o7 =>
  match o7 with
  | Sum.inl p8 =>
   some (p8.1, ())
  | Sum.inr p9 =>
   some (true, ())
noncomputable def spec_l13Name.ent : Entry := ⟨[false], [.cell (.val .bor (.str))], [.cell (.val .bor (.bool))], [], fun v => spec_l13Name v.1⟩
theorem spec_l13Name.eq : ∀ v, evFn spec_l13Name.E f44 spec_l13Name.ent.ptrs spec_l13Name.ent.ins spec_l13Name.ent.rets spec_l13Name.ent.outs v = spec_l13Name.ent.f v := by intro v; kernel_rfl
theorem spec_l13Name.fok : ∀ q ∈ ([] : List (Nat × Entry)), EntryOK Pr q.1 q.2 := by intro q hq; simp at hq
theorem spec_l13Name_l4.it : ∀ n v, iter (evStep spec_l13Name.E4 (bodyAt 4 f44) spec_l13Name_l4.ent.ins spec_l13Name_l4.ent.rts spec_l13Name_l4.ent.hm spec_l13Name_l4.ent.nl spec_l13Name_l4.ent.xs) n v = spec_l13Name_l4 n v.1 v.2.1 := by
 intro n
 induction n with
 | zero => intro v; rfl
 | succ n ih =>
  intro v
  show (evStep spec_l13Name.E4 (bodyAt 4 f44) spec_l13Name_l4.ent.ins spec_l13Name_l4.ent.rts spec_l13Name_l4.ent.hm spec_l13Name_l4.ent.nl spec_l13Name_l4.ent.xs) (iter (evStep spec_l13Name.E4 (bodyAt 4 f44) spec_l13Name_l4.ent.ins spec_l13Name_l4.ent.rts spec_l13Name_l4.ent.hm spec_l13Name_l4.ent.nl spec_l13Name_l4.ent.xs) n) v = _
  rw [spec_l13Name_l4.eq, show (fun c0 c1 => iter (evStep spec_l13Name.E4 (bodyAt 4 f44) spec_l13Name_l4.ent.ins spec_l13Name_l4.ent.rts spec_l13Name_l4.ent.hm spec_l13Name_l4.ent.nl spec_l13Name_l4.ent.xs) n (c0, c1, ())) = spec_l13Name_l4 n from by funext c0 c1; exact ih _]
  rfl
theorem spec_l13Name_l4.fr : firstRegion (bodyAt 4 f44) = 4 := by kernel_rfl
theorem spec_l13Name_l4.ls : loopsOf (bodyAt 4 f44) = [] := by kernel_rfl
theorem spec_l13Name_l4.lok {E : Env} (hpin : spec_l13Name.E4.pin = E.pin) (hfind : find 4 E.loops = some spec_l13Name_l4.ent) : LoopOK Pr E (bodyAt 4 f44) :=
 loop_of (E1 := spec_l13Name.E4) (EnvOK.of dok spec_l13Name.fok) mixed hpin (by rw [spec_l13Name_l4.fr]; exact hfind) spec_l13Name_l4.ls (by intro l hl; simp at hl) (fun v => (spec_l13Name_l4.it K0 v).symm)
theorem spec_l13Name.ls : loopsOf (bodyOf f44) = [bodyAt 4 f44] := by kernel_rfl
theorem spec_l13Name.ok : EntryOK Pr 44 spec_l13Name.ent :=
 entry_ok (E := spec_l13Name.E) (EnvOK.of dok spec_l13Name.fok) mixed (fn := f44) (by kernel_rfl) (by kernel_rfl) (by decide) spec_l13Name.ls (by intro l hl; simp only [List.mem_singleton] at hl; subst hl; exact spec_l13Name_l4.lok rfl rfl) spec_l13Name.eq
/-! ### loop.example/g00038/spec.l13Table -/
noncomputable def spec_l13Table.E4 : Env := ⟨D, [], [], []⟩
noncomputable def spec_l13Table_l4_step (rec : List Int → Int → Int → Int → Option ((Bool × Unit) ⊕ (Unit))) (y0 : List Int) (y1 : Int) (y2 : Int) (y3 : Int) : Option ((Bool × Unit) ⊕ (Unit)) :=
 bif decide (y3 < y1) then
  let b2 : Bool := decide ((rd (.int .i64) y0 y3) < -2)
  let b3 : Bool := decide ((rd (.int .i64) y0 y3) ≥ y2)
  bif (decide (0 ≤ y3) && decide (y3 < (y0.length : Int))) && (!(!b2) || (decide (0 ≤ y3) && decide (y3 < (y0.length : Int)))) then
   bif (b2 || b3) then
    some (Sum.inl (false, ()))
   else
    rec y0 y1 y2 (wrap64 (y3 + 1))
  else none
 else
  some (Sum.inr ())
noncomputable def spec_l13Table_l4 : Nat → List Int → Int → Int → Int → Option ((Bool × Unit) ⊕ (Unit))
 | 0 => fun _ _ _ _ => none
 | n + 1 => spec_l13Table_l4_step (spec_l13Table_l4 n)
noncomputable def spec_l13Table_l4.ent : LEntry := ⟨(.cell (.val .bor (.slice (.int .i64))) :: (.cell (.val .bor (.int .i64)) :: (.cell (.val .bor (.int .i64)) :: (sk 4 (.cell (.val .bor (.int .i64)) :: (sk 22 [])))))), rk 30 [], [], [], [⟨none, sk 6 (.cell (.val .bor (.bool)) :: (sk 23 [])), rk 30 [], [], []⟩, ⟨some 0, sk 30 [], rk 30 [], [], []⟩], fun v => spec_l13Table_l4 K0 v.1 v.2.1 v.2.2.1 v.2.2.2.1⟩
theorem spec_l13Table_l4.eq : ∀ rec v, evStep spec_l13Table.E4 (bodyAt 4 f45) spec_l13Table_l4.ent.ins spec_l13Table_l4.ent.rts spec_l13Table_l4.ent.hm spec_l13Table_l4.ent.nl spec_l13Table_l4.ent.xs rec v = spec_l13Table_l4_step (fun c0 c1 c2 c3 => rec (c0, c1, c2, c3, ())) v.1 v.2.1 v.2.2.1 v.2.2.2.1 := by intro rec v; kernel_rfl
noncomputable def spec_l13Table.E : Env := ⟨D, [], [], [(4, spec_l13Table_l4.ent)]⟩
noncomputable def spec_l13Table (a0 : List Int) (a1 : Int) (a2 : Int) : Option (Bool × Unit) :=
 let b1 : Bool := ((a0.length : Int) != a1)
 bif b1 then
  some (false, ())
 else
  (spec_l13Table_l4 K0 a0 a1 a2 0).bind fun o4 =>
  match o4 with
  | Sum.inl p5 =>
   some (p5.1, ())
  | Sum.inr p6 =>
   some (true, ())
noncomputable def spec_l13Table.ent : Entry := ⟨[false, false, false], [.cell (.val .bor (.slice (.int .i64))), .cell (.val .bor (.int .i64)), .cell (.val .bor (.int .i64))], [.cell (.val .bor (.bool))], [], fun v => spec_l13Table v.1 v.2.1 v.2.2.1⟩
theorem spec_l13Table.eq : ∀ v, evFn spec_l13Table.E f45 spec_l13Table.ent.ptrs spec_l13Table.ent.ins spec_l13Table.ent.rets spec_l13Table.ent.outs v = spec_l13Table.ent.f v := by intro v; kernel_rfl
theorem spec_l13Table.fok : ∀ q ∈ ([] : List (Nat × Entry)), EntryOK Pr q.1 q.2 := by intro q hq; simp at hq
theorem spec_l13Table_l4.it : ∀ n v, iter (evStep spec_l13Table.E4 (bodyAt 4 f45) spec_l13Table_l4.ent.ins spec_l13Table_l4.ent.rts spec_l13Table_l4.ent.hm spec_l13Table_l4.ent.nl spec_l13Table_l4.ent.xs) n v = spec_l13Table_l4 n v.1 v.2.1 v.2.2.1 v.2.2.2.1 := by
 intro n
 induction n with
 | zero => intro v; rfl
 | succ n ih =>
  intro v
  show (evStep spec_l13Table.E4 (bodyAt 4 f45) spec_l13Table_l4.ent.ins spec_l13Table_l4.ent.rts spec_l13Table_l4.ent.hm spec_l13Table_l4.ent.nl spec_l13Table_l4.ent.xs) (iter (evStep spec_l13Table.E4 (bodyAt 4 f45) spec_l13Table_l4.ent.ins spec_l13Table_l4.ent.rts spec_l13Table_l4.ent.hm spec_l13Table_l4.ent.nl spec_l13Table_l4.ent.xs) n) v = _
  rw [spec_l13Table_l4.eq, show (fun c0 c1 c2 c3 => iter (evStep spec_l13Table.E4 (bodyAt 4 f45) spec_l13Table_l4.ent.ins spec_l13Table_l4.ent.rts spec_l13Table_l4.ent.hm spec_l13Table_l4.ent.nl spec_l13Table_l4.ent.xs) n (c0, c1, c2, c3, ())) = spec_l13Table_l4 n from by funext c0 c1 c2 c3; exact ih _]
  rfl
theorem spec_l13Table_l4.fr : firstRegion (bodyAt 4 f45) = 4 := by kernel_rfl
theorem spec_l13Table_l4.ls : loopsOf (bodyAt 4 f45) = [] := by kernel_rfl
theorem spec_l13Table_l4.lok {E : Env} (hpin : spec_l13Table.E4.pin = E.pin) (hfind : find 4 E.loops = some spec_l13Table_l4.ent) : LoopOK Pr E (bodyAt 4 f45) :=
 loop_of (E1 := spec_l13Table.E4) (EnvOK.of dok spec_l13Table.fok) mixed hpin (by rw [spec_l13Table_l4.fr]; exact hfind) spec_l13Table_l4.ls (by intro l hl; simp at hl) (fun v => (spec_l13Table_l4.it K0 v).symm)
theorem spec_l13Table.ls : loopsOf (bodyOf f45) = [bodyAt 4 f45] := by kernel_rfl
theorem spec_l13Table.ok : EntryOK Pr 45 spec_l13Table.ent :=
 entry_ok (E := spec_l13Table.E) (EnvOK.of dok spec_l13Table.fok) mixed (fn := f45) (by kernel_rfl) (by kernel_rfl) (by decide) spec_l13Table.ls (by intro l hl; simp only [List.mem_singleton] at hl; subst hl; exact spec_l13Table_l4.lok rfl rfl) spec_l13Table.eq
/-! ### loop.example/g00038/spec.l01Bool -/
noncomputable def spec_l01Bool.E : Env := ⟨D, [], [], []⟩
noncomputable def spec_l01Bool (a0 : Bool) : Option (Int × Unit) :=
 bif a0 then
  some (1, ())
 else
  some (0, ())
noncomputable def spec_l01Bool.ent : Entry := ⟨[false], [.cell (.val .bor (.bool))], [.cell (.val .bor (.int .i64))], [], fun v => spec_l01Bool v.1⟩
theorem spec_l01Bool.eq : ∀ v, evFn spec_l01Bool.E f33 spec_l01Bool.ent.ptrs spec_l01Bool.ent.ins spec_l01Bool.ent.rets spec_l01Bool.ent.outs v = spec_l01Bool.ent.f v := by intro v; kernel_rfl
theorem spec_l01Bool.fok : ∀ q ∈ ([] : List (Nat × Entry)), EntryOK Pr q.1 q.2 := by intro q hq; simp at hq
theorem spec_l01Bool.ls : loopsOf (bodyOf f33) = [] := by kernel_rfl
theorem spec_l01Bool.ok : EntryOK Pr 33 spec_l01Bool.ent :=
 entry_ok (E := spec_l01Bool.E) (EnvOK.of dok spec_l01Bool.fok) mixed (fn := f33) (by kernel_rfl) (by kernel_rfl) (by decide) spec_l01Bool.ls (by intro l hl; simp at hl) spec_l01Bool.eq
/-! ### loop.example/g00038/spec.l13Uses -/
noncomputable def spec_l13Uses.E3 : Env := ⟨D, [], [(33, spec_l01Bool.ent)], []⟩
noncomputable def spec_l13Uses_l3_step (rec : Int → Int → Int → ByteArray → ByteArray → List Int → List ByteArray → List V2 → Option ((Int × Int × ByteArray × ByteArray × List Int × List ByteArray × List V2 × Unit))) (y0 : Int) (y1 : Int) (y2 : Int) (y3 : ByteArray) (y4 : ByteArray) (y5 : List Int) (y6 : List ByteArray) (y7 : List V2) : Option ((Int × Int × ByteArray × ByteArray × List Int × List ByteArray × List V2 × Unit)) :=
 let b1 : Bool := decide (y2 < (y5.length : Int))
 bif b1 then
  let b2 : Bool := ((rd (.int .i64) y5 y2) == y0)
  (spec_l01Bool b2).bind fun r3 =>
  bif decide (0 ≤ y2) && decide (y2 < (y5.length : Int)) then
   rec y0 (wrap64 (y1 + r3.1)) (wrap64 (y2 + 1)) y3 y4 y5 y6 y7
  else none
 else
  some (y0, y1, y3, y4, y5, y6, y7, ())
noncomputable def spec_l13Uses_l3 : Nat → Int → Int → Int → ByteArray → ByteArray → List Int → List ByteArray → List V2 → Option ((Int × Int × ByteArray × ByteArray × List Int × List ByteArray × List V2 × Unit))
 | 0 => fun _ _ _ _ _ _ _ _ => none
 | n + 1 => spec_l13Uses_l3_step (spec_l13Uses_l3 n)
noncomputable def spec_l13Uses_l3.ent : LEntry := ⟨sk 1 (.cell (.val .bor (.int .i64)) :: (.cell (.fix (.ptr 2 0)) :: (sk 2 (.cell (.val .bor (.int .i64)) :: (.cell (.val .bor (.int .i64)) :: (sk 52 [])))))), rk 2 ([.val .bor (.str), .val .bor (.str), .val .bor (.slice (.int .i64)), .val .bor (.slice (.str)), .val .bor (.slice R2)] :: (rk 56 [])), [], [], [⟨some 0, sk 1 (.cell (.val .bor (.int .i64)) :: (.cell (.fix (.ptr 2 0)) :: (sk 2 (.cell (.val .bor (.int .i64)) :: (sk 53 []))))), rk 2 ([.val .bor (.str), .val .bor (.str), .val .bor (.slice (.int .i64)), .val .bor (.slice (.str)), .val .bor (.slice R2)] :: (rk 56 [])), [], []⟩], fun v => spec_l13Uses_l3 K0 v.1 v.2.1 v.2.2.1 v.2.2.2.1 v.2.2.2.2.1 v.2.2.2.2.2.1 v.2.2.2.2.2.2.1 v.2.2.2.2.2.2.2.1⟩
theorem spec_l13Uses_l3.eq : ∀ rec v, evStep spec_l13Uses.E3 (bodyAt 3 f46) spec_l13Uses_l3.ent.ins spec_l13Uses_l3.ent.rts spec_l13Uses_l3.ent.hm spec_l13Uses_l3.ent.nl spec_l13Uses_l3.ent.xs rec v = spec_l13Uses_l3_step (fun c0 c1 c2 c3 c4 c5 c6 c7 => rec (c0, c1, c2, c3, c4, c5, c6, c7, ())) v.1 v.2.1 v.2.2.1 v.2.2.2.1 v.2.2.2.2.1 v.2.2.2.2.2.1 v.2.2.2.2.2.2.1 v.2.2.2.2.2.2.2.1 := by intro rec v; kernel_rfl
noncomputable def spec_l13Uses.E10 : Env := ⟨D, [], [(33, spec_l01Bool.ent)], [(3, spec_l13Uses_l3.ent)]⟩
noncomputable def spec_l13Uses_l10_step (rec : Int → Int → Int → Int → ByteArray → ByteArray → List Int → List ByteArray → List V2 → Option ((Int × Int × Int × ByteArray × ByteArray × List Int × List ByteArray × List V2 × Unit))) (y0 : Int) (y1 : Int) (y2 : Int) (y3 : Int) (y4 : ByteArray) (y5 : ByteArray) (y6 : List Int) (y7 : List ByteArray) (y8 : List V2) : Option ((Int × Int × Int × ByteArray × ByteArray × List Int × List ByteArray × List V2 × Unit)) :=
 let e6 : V2 := rd R2 y8 y2
 let b7 : Bool := decide (y3 < (e6.2.length : Int))
 bif decide (0 ≤ y2) && decide (y2 < (y8.length : Int)) then
  bif b7 then
   let b8 : Bool := ((rd (.int .i64) e6.2 y3) == y0)
   (spec_l01Bool b8).bind fun r9 =>
   bif (decide (0 ≤ y2) && decide (y2 < (y8.length : Int))) && (decide (0 ≤ y3) && decide (y3 < (e6.2.length : Int))) then
    rec y0 (wrap64 (y1 + r9.1)) y2 (wrap64 (y3 + 1)) y4 y5 y6 y7 y8
   else none
  else
   some (y0, y1, y2, y4, y5, y6, y7, y8, ())
 else none
noncomputable def spec_l13Uses_l10 : Nat → Int → Int → Int → Int → ByteArray → ByteArray → List Int → List ByteArray → List V2 → Option ((Int × Int × Int × ByteArray × ByteArray × List Int × List ByteArray × List V2 × Unit))
 | 0 => fun _ _ _ _ _ _ _ _ _ => none
 | n + 1 => spec_l13Uses_l10_step (spec_l13Uses_l10 n)
noncomputable def spec_l13Uses_l10.ent : LEntry := ⟨sk 1 (.cell (.val .bor (.int .i64)) :: (.cell (.fix (.ptr 2 0)) :: (sk 2 (.cell (.val .bor (.int .i64)) :: (sk 1 (.cell (.val .bor (.int .i64)) :: (.cell (.val .bor (.int .i64)) :: (sk 50 [])))))))), rk 2 ([.val .bor (.str), .val .bor (.str), .val .bor (.slice (.int .i64)), .val .bor (.slice (.str)), .val .bor (.slice R2)] :: (rk 56 [])), [], [], [⟨some 4, sk 1 (.cell (.val .bor (.int .i64)) :: (.cell (.fix (.ptr 2 0)) :: (sk 2 (.cell (.val .bor (.int .i64)) :: (sk 1 (.cell (.val .bor (.int .i64)) :: (sk 51 []))))))), rk 2 ([.val .bor (.str), .val .bor (.str), .val .bor (.slice (.int .i64)), .val .bor (.slice (.str)), .val .bor (.slice R2)] :: (rk 56 [])), [], []⟩], fun v => spec_l13Uses_l10 K0 v.1 v.2.1 v.2.2.1 v.2.2.2.1 v.2.2.2.2.1 v.2.2.2.2.2.1 v.2.2.2.2.2.2.1 v.2.2.2.2.2.2.2.1 v.2.2.2.2.2.2.2.2.1⟩
theorem spec_l13Uses_l10.eq : ∀ rec v, evStep spec_l13Uses.E10 (bodyAt 10 f46) spec_l13Uses_l10.ent.ins spec_l13Uses_l10.ent.rts spec_l13Uses_l10.ent.hm spec_l13Uses_l10.ent.nl spec_l13Uses_l10.ent.xs rec v = spec_l13Uses_l10_step (fun c0 c1 c2 c3 c4 c5 c6 c7 c8 => rec (c0, c1, c2, c3, c4, c5, c6, c7, c8, ())) v.1 v.2.1 v.2.2.1 v.2.2.2.1 v.2.2.2.2.1 v.2.2.2.2.2.1 v.2.2.2.2.2.2.1 v.2.2.2.2.2.2.2.1 v.2.2.2.2.2.2.2.2.1 := by intro rec v; kernel_rfl
noncomputable def spec_l13Uses.E7 : Env := ⟨D, [], [(33, spec_l01Bool.ent)], [(3, spec_l13Uses_l3.ent), (10, spec_l13Uses_l10.ent)]⟩
noncomputable def spec_l13Uses_l7_step (rec : Int → Int → Int → ByteArray → ByteArray → List Int → List ByteArray → List V2 → Option ((Int × Unit))) (y0 : Int) (y1 : Int) (y2 : Int) (y3 : ByteArray) (y4 : ByteArray) (y5 : List Int) (y6 : List ByteArray) (y7 : List V2) : Option ((Int × Unit)) :=
 let b5 : Bool := decide (y2 < (y7.length : Int))
 bif b5 then
  (spec_l13Uses_l10 K0 y0 y1 y2 0 y3 y4 y5 y6 y7).bind fun o10 =>
  rec o10.1 o10.2.1 (wrap64 (o10.2.2.1 + 1)) o10.2.2.2.1 o10.2.2.2.2.1 o10.2.2.2.2.2.1 o10.2.2.2.2.2.2.1 o10.2.2.2.2.2.2.2.1
 else
  some (y1, ())
noncomputable def spec_l13Uses_l7 : Nat → Int → Int → Int → ByteArray → ByteArray → List Int → List ByteArray → List V2 → Option ((Int × Unit))
 | 0 => fun _ _ _ _ _ _ _ _ => none
 | n + 1 => spec_l13Uses_l7_step (spec_l13Uses_l7 n)
noncomputable def spec_l13Uses_l7.ent : LEntry := ⟨sk 1 (.cell (.val .bor (.int .i64)) :: (.cell (.fix (.ptr 2 0)) :: (sk 2 (.cell (.val .bor (.int .i64)) :: (sk 1 (.cell (.val .bor (.int .i64)) :: (sk 51 []))))))), rk 2 ([.val .bor (.str), .val .bor (.str), .val .bor (.slice (.int .i64)), .val .bor (.slice (.str)), .val .bor (.slice R2)] :: (rk 56 [])), [], [], [⟨some 2, sk 5 (.cell (.val .bor (.int .i64)) :: (sk 53 [])), rk 59 [], [], []⟩], fun v => spec_l13Uses_l7 K0 v.1 v.2.1 v.2.2.1 v.2.2.2.1 v.2.2.2.2.1 v.2.2.2.2.2.1 v.2.2.2.2.2.2.1 v.2.2.2.2.2.2.2.1⟩
theorem spec_l13Uses_l7.eq : ∀ rec v, evStep spec_l13Uses.E7 (bodyAt 7 f46) spec_l13Uses_l7.ent.ins spec_l13Uses_l7.ent.rts spec_l13Uses_l7.ent.hm spec_l13Uses_l7.ent.nl spec_l13Uses_l7.ent.xs rec v = spec_l13Uses_l7_step (fun c0 c1 c2 c3 c4 c5 c6 c7 => rec (c0, c1, c2, c3, c4, c5, c6, c7, ())) v.1 v.2.1 v.2.2.1 v.2.2.2.1 v.2.2.2.2.1 v.2.2.2.2.2.1 v.2.2.2.2.2.2.1 v.2.2.2.2.2.2.2.1 := by intro rec v; kernel_rfl
noncomputable def spec_l13Uses.E : Env := ⟨D, [], [(33, spec_l01Bool.ent)], [(3, spec_l13Uses_l3.ent), (10, spec_l13Uses_l10.ent), (7, spec_l13Uses_l7.ent)]⟩
noncomputable def spec_l13Uses (a0 : ByteArray) (a1 : ByteArray) (a2 : List Int) (a3 : List ByteArray) (a4 : List V2) (a5 : Int) : Option (Int × Unit) :=
 (spec_l13Uses_l3 K0 a5 0 0 a0 a1 a2 a3 a4).bind fun o4 =>
 (spec_l13Uses_l7 K0 o4.1 o4.2.1 0 o4.2.2.1 o4.2.2.2.1 o4.2.2.2.2.1 o4.2.2.2.2.2.1 o4.2.2.2.2.2.2.1).bind fun o11 =>
 some (o11.1, ())
noncomputable def spec_l13Uses.ent : Entry := ⟨[false, false], [.agg [.val .bor (.str), .val .bor (.str), .val .bor (.slice (.int .i64)), .val .bor (.slice (.str)), .val .bor (.slice R2)], .cell (.val .bor (.int .i64))], [.cell (.val .bor (.int .i64))], [], fun v => spec_l13Uses v.1 v.2.1 v.2.2.1 v.2.2.2.1 v.2.2.2.2.1 v.2.2.2.2.2.1⟩
theorem spec_l13Uses.eq : ∀ v, evFn spec_l13Uses.E f46 spec_l13Uses.ent.ptrs spec_l13Uses.ent.ins spec_l13Uses.ent.rets spec_l13Uses.ent.outs v = spec_l13Uses.ent.f v := by intro v; kernel_rfl
theorem spec_l13Uses.fok : ∀ q ∈ [((33 : Nat), spec_l01Bool.ent)], EntryOK Pr q.1 q.2 := by
 intro q hq
 simp only [List.mem_cons, List.mem_nil_iff, or_false] at hq
 rcases hq with rfl
 · exact spec_l01Bool.ok
theorem spec_l13Uses_l3.it : ∀ n v, iter (evStep spec_l13Uses.E3 (bodyAt 3 f46) spec_l13Uses_l3.ent.ins spec_l13Uses_l3.ent.rts spec_l13Uses_l3.ent.hm spec_l13Uses_l3.ent.nl spec_l13Uses_l3.ent.xs) n v = spec_l13Uses_l3 n v.1 v.2.1 v.2.2.1 v.2.2.2.1 v.2.2.2.2.1 v.2.2.2.2.2.1 v.2.2.2.2.2.2.1 v.2.2.2.2.2.2.2.1 := by
 intro n
 induction n with
 | zero => intro v; rfl
 | succ n ih =>
  intro v
  show (evStep spec_l13Uses.E3 (bodyAt 3 f46) spec_l13Uses_l3.ent.ins spec_l13Uses_l3.ent.rts spec_l13Uses_l3.ent.hm spec_l13Uses_l3.ent.nl spec_l13Uses_l3.ent.xs) (iter (evStep spec_l13Uses.E3 (bodyAt 3 f46) spec_l13Uses_l3.ent.ins spec_l13Uses_l3.ent.rts spec_l13Uses_l3.ent.hm spec_l13Uses_l3.ent.nl spec_l13Uses_l3.ent.xs) n) v = _
  rw [spec_l13Uses_l3.eq, show (fun c0 c1 c2 c3 c4 c5 c6 c7 => iter (evStep spec_l13Uses.E3 (bodyAt 3 f46) spec_l13Uses_l3.ent.ins spec_l13Uses_l3.ent.rts spec_l13Uses_l3.ent.hm spec_l13Uses_l3.ent.nl spec_l13Uses_l3.ent.xs) n (c0, c1, c2, c3, c4, c5, c6, c7, ())) = spec_l13Uses_l3 n from by funext c0 c1 c2 c3 c4 c5 c6 c7; exact ih _]
  rfl
theorem spec_l13Uses_l3.fr : firstRegion (bodyAt 3 f46) = 3 := by kernel_rfl
theorem spec_l13Uses_l3.ls : loopsOf (bodyAt 3 f46) = [] := by kernel_rfl
theorem spec_l13Uses_l3.lok {E : Env} (hpin : spec_l13Uses.E3.pin = E.pin) (hfind : find 3 E.loops = some spec_l13Uses_l3.ent) : LoopOK Pr E (bodyAt 3 f46) :=
 loop_of (E1 := spec_l13Uses.E3) (EnvOK.of dok spec_l13Uses.fok) mixed hpin (by rw [spec_l13Uses_l3.fr]; exact hfind) spec_l13Uses_l3.ls (by intro l hl; simp at hl) (fun v => (spec_l13Uses_l3.it K0 v).symm)
theorem spec_l13Uses_l10.it : ∀ n v, iter (evStep spec_l13Uses.E10 (bodyAt 10 f46) spec_l13Uses_l10.ent.ins spec_l13Uses_l10.ent.rts spec_l13Uses_l10.ent.hm spec_l13Uses_l10.ent.nl spec_l13Uses_l10.ent.xs) n v = spec_l13Uses_l10 n v.1 v.2.1 v.2.2.1 v.2.2.2.1 v.2.2.2.2.1 v.2.2.2.2.2.1 v.2.2.2.2.2.2.1 v.2.2.2.2.2.2.2.1 v.2.2.2.2.2.2.2.2.1 := by
 intro n
 induction n with
 | zero => intro v; rfl
 | succ n ih =>
  intro v
  show (evStep spec_l13Uses.E10 (bodyAt 10 f46) spec_l13Uses_l10.ent.ins spec_l13Uses_l10.ent.rts spec_l13Uses_l10.ent.hm spec_l13Uses_l10.ent.nl spec_l13Uses_l10.ent.xs) (iter (evStep spec_l13Uses.E10 (bodyAt 10 f46) spec_l13Uses_l10.ent.ins spec_l13Uses_l10.ent.rts spec_l13Uses_l10.ent.hm spec_l13Uses_l10.ent.nl spec_l13Uses_l10.ent.xs) n) v = _
  rw [spec_l13Uses_l10.eq, show (fun c0 c1 c2 c3 c4 c5 c6 c7 c8 => iter (evStep spec_l13Uses.E10 (bodyAt 10 f46) spec_l13Uses_l10.ent.ins spec_l13Uses_l10.ent.rts spec_l13Uses_l10.ent.hm spec_l13Uses_l10.ent.nl spec_l13Uses_l10.ent.xs) n (c0, c1, c2, c3, c4, c5, c6, c7, c8, ())) = spec_l13Uses_l10 n from by funext c0 c1 c2 c3 c4 c5 c6 c7 c8; exact ih _]
  rfl
theorem spec_l13Uses_l10.fr : firstRegion (bodyAt 10 f46) = 10 := by kernel_rfl
theorem spec_l13Uses_l10.ls : loopsOf (bodyAt 10 f46) = [] := by kernel_rfl
theorem spec_l13Uses_l10.lok {E : Env} (hpin : spec_l13Uses.E10.pin = E.pin) (hfind : find 10 E.loops = some spec_l13Uses_l10.ent) : LoopOK Pr E (bodyAt 10 f46) :=
 loop_of (E1 := spec_l13Uses.E10) (EnvOK.of dok spec_l13Uses.fok) mixed hpin (by rw [spec_l13Uses_l10.fr]; exact hfind) spec_l13Uses_l10.ls (by intro l hl; simp at hl) (fun v => (spec_l13Uses_l10.it K0 v).symm)
theorem spec_l13Uses_l7.it : ∀ n v, iter (evStep spec_l13Uses.E7 (bodyAt 7 f46) spec_l13Uses_l7.ent.ins spec_l13Uses_l7.ent.rts spec_l13Uses_l7.ent.hm spec_l13Uses_l7.ent.nl spec_l13Uses_l7.ent.xs) n v = spec_l13Uses_l7 n v.1 v.2.1 v.2.2.1 v.2.2.2.1 v.2.2.2.2.1 v.2.2.2.2.2.1 v.2.2.2.2.2.2.1 v.2.2.2.2.2.2.2.1 := by
 intro n
 induction n with
 | zero => intro v; rfl
 | succ n ih =>
  intro v
  show (evStep spec_l13Uses.E7 (bodyAt 7 f46) spec_l13Uses_l7.ent.ins spec_l13Uses_l7.ent.rts spec_l13Uses_l7.ent.hm spec_l13Uses_l7.ent.nl spec_l13Uses_l7.ent.xs) (iter (evStep spec_l13Uses.E7 (bodyAt 7 f46) spec_l13Uses_l7.ent.ins spec_l13Uses_l7.ent.rts spec_l13Uses_l7.ent.hm spec_l13Uses_l7.ent.nl spec_l13Uses_l7.ent.xs) n) v = _
  rw [spec_l13Uses_l7.eq, show (fun c0 c1 c2 c3 c4 c5 c6 c7 => iter (evStep spec_l13Uses.E7 (bodyAt 7 f46) spec_l13Uses_l7.ent.ins spec_l13Uses_l7.ent.rts spec_l13Uses_l7.ent.hm spec_l13Uses_l7.ent.nl spec_l13Uses_l7.ent.xs) n (c0, c1, c2, c3, c4, c5, c6, c7, ())) = spec_l13Uses_l7 n from by funext c0 c1 c2 c3 c4 c5 c6 c7; exact ih _]
  rfl
theorem spec_l13Uses_l7.fr : firstRegion (bodyAt 7 f46) = 7 := by kernel_rfl
theorem spec_l13Uses_l7.ls : loopsOf (bodyAt 7 f46) = [bodyAt 10 f46] := by kernel_rfl
theorem spec_l13Uses_l7.lok {E : Env} (hpin : spec_l13Uses.E7.pin = E.pin) (hfind : find 7 E.loops = some spec_l13Uses_l7.ent) : LoopOK Pr E (bodyAt 7 f46) :=
 loop_of (E1 := spec_l13Uses.E7) (EnvOK.of dok spec_l13Uses.fok) mixed hpin (by rw [spec_l13Uses_l7.fr]; exact hfind) spec_l13Uses_l7.ls (by intro l hl; simp only [List.mem_singleton] at hl; subst hl; exact spec_l13Uses_l10.lok rfl rfl) (fun v => (spec_l13Uses_l7.it K0 v).symm)
theorem spec_l13Uses.ls : loopsOf (bodyOf f46) = [bodyAt 3 f46, bodyAt 7 f46, bodyAt 10 f46] := by kernel_rfl
theorem spec_l13Uses.ok : EntryOK Pr 46 spec_l13Uses.ent :=
 entry_ok (E := spec_l13Uses.E) (EnvOK.of dok spec_l13Uses.fok) mixed (fn := f46) (by kernel_rfl) (by kernel_rfl) (by decide) spec_l13Uses.ls (by
  intro l hl
  simp only [List.mem_cons, List.mem_nil_iff, or_false] at hl
  rcases hl with rfl | rfl | rfl
  · exact spec_l13Uses_l3.lok rfl rfl
  · exact spec_l13Uses_l7.lok rfl rfl
  · exact spec_l13Uses_l10.lok rfl rfl) spec_l13Uses.eq
/-! ### loop.example/g00038/spec.ImageFault -/
noncomputable def spec_ImageFault.E10 : Env := ⟨D, [], [(44, spec_l13Name.ent), (45, spec_l13Table.ent), (46, spec_l13Uses.ent)], []⟩
noncomputable def spec_ImageFault_l10_step (rec : Int → Int → Int → ByteArray → ByteArray → List Int → List ByteArray → List V2 → Option ((Int × Unit) ⊕ (Int × Int × ByteArray × ByteArray × List Int × List ByteArray × List V2 × Unit))) (y0 : Int) (y1 : Int) (y2 : Int) (y3 : ByteArray) (y4 : ByteArray) (y5 : List Int) (y6 : List ByteArray) (y7 : List V2) : Option ((Int × Unit) ⊕ (Int × Int × ByteArray × ByteArray × List Int × List ByteArray × List V2 × Unit)) :=
 bif decide (y2 < y1) then
  let e15 : V2 := rd R2 y7 y2
  let e16 : V2 := rd R2 y7 y1
  bif (decide (0 ≤ y2) && decide (y2 < (y7.length : Int))) && (decide (0 ≤ y1) && decide (y1 < (y7.length : Int))) then
   bif seq e15.1 e16.1 then
    some (Sum.inl (1, ()))
   else
    rec y0 y1 (wrap64 (y2 + 1)) y3 y4 y5 y6 y7
  else none
 else
  some (Sum.inr (y0, y1, y3, y4, y5, y6, y7, ()))
noncomputable def spec_ImageFault_l10 : Nat → Int → Int → Int → ByteArray → ByteArray → List Int → List ByteArray → List V2 → Option ((Int × Unit) ⊕ (Int × Int × ByteArray × ByteArray × List Int × List ByteArray × List V2 × Unit))
 | 0 => fun _ _ _ _ _ _ _ _ => none
 | n + 1 => spec_ImageFault_l10_step (spec_ImageFault_l10 n)
noncomputable def spec_ImageFault_l10.ent : LEntry := ⟨sk 1 (.cell (.fix (.ptr 1 0)) :: (sk 1 (.cell (.val .bor (.int .i64)) :: (.cell (.val .bor (.int .i64)) :: (.cell (.val .bor (.int .i64)) :: (sk 116 [])))))), rk 1 ([.val .bor (.str), .val .bor (.str), .val .bor (.slice (.int .i64)), .val .bor (.slice (.str)), .val .bor (.slice R2)] :: (rk 120 [])), [], [], [⟨none, sk 2 (.cell (.val .bor (.int .i64)) :: (sk 119 [])), rk 122 [], [], []⟩, ⟨some 2, sk 1 (.cell (.fix (.ptr 1 0)) :: (sk 1 (.cell (.val .bor (.int .i64)) :: (.cell (.val .bor (.int .i64)) :: (sk 117 []))))), rk 1 ([.val .bor (.str), .val .bor (.str), .val .bor (.slice (.int .i64)), .val .bor (.slice (.str)), .val .bor (.slice R2)] :: (rk 120 [])), [], []⟩], fun v => spec_ImageFault_l10 K0 v.1 v.2.1 v.2.2.1 v.2.2.2.1 v.2.2.2.2.1 v.2.2.2.2.2.1 v.2.2.2.2.2.2.1 v.2.2.2.2.2.2.2.1⟩
theorem spec_ImageFault_l10.eq : ∀ rec v, evStep spec_ImageFault.E10 (bodyAt 10 f30) spec_ImageFault_l10.ent.ins spec_ImageFault_l10.ent.rts spec_ImageFault_l10.ent.hm spec_ImageFault_l10.ent.nl spec_ImageFault_l10.ent.xs rec v = spec_ImageFault_l10_step (fun c0 c1 c2 c3 c4 c5 c6 c7 => rec (c0, c1, c2, c3, c4, c5, c6, c7, ())) v.1 v.2.1 v.2.2.1 v.2.2.2.1 v.2.2.2.2.1 v.2.2.2.2.2.1 v.2.2.2.2.2.2.1 v.2.2.2.2.2.2.2.1 := by intro rec v; kernel_rfl
noncomputable def spec_ImageFault.E5 : Env := ⟨D, [], [(44, spec_l13Name.ent), (45, spec_l13Table.ent), (46, spec_l13Uses.ent)], [(10, spec_ImageFault_l10.ent)]⟩
noncomputable def spec_ImageFault_l5_step (rec : Int → Int → ByteArray → ByteArray → List Int → List ByteArray → List V2 → Option ((Int × Unit) ⊕ (ByteArray × ByteArray × List Int × List ByteArray × List V2 × Unit))) (y0 : Int) (y1 : Int) (y2 : ByteArray) (y3 : ByteArray) (y4 : List Int) (y5 : List ByteArray) (y6 : List V2) : Option ((Int × Unit) ⊕ (ByteArray × ByteArray × List Int × List ByteArray × List V2 × Unit)) :=
 let b11 : Bool := decide (y1 < (y6.length : Int))
 bif b11 then
  let e12 : V2 := rd R2 y6 y1
  let r13 : Bool × Unit := (spec_l13Name e12.1).getD (false, ())
  let r14 : Bool × Unit := (spec_l13Table e12.2 y0 (y5.length : Int)).getD (false, ())
  bif (decide (0 ≤ y1) && decide (y1 < (y6.length : Int))) && (((spec_l13Name e12.1).isSome) && ((!(!(!r13.1)) || (decide (0 ≤ y1) && decide (y1 < (y6.length : Int)))) && (!(!(!r13.1)) || ((spec_l13Table e12.2 y0 (y5.length : Int)).isSome)))) then
   bif (!r13.1 || !r14.1) then
    some (Sum.inl (1, ()))
   else
    (spec_ImageFault_l10 K0 y0 y1 0 y2 y3 y4 y5 y6).bind fun o17 =>
    match o17 with
    | Sum.inl p18 =>
     some (Sum.inl (p18.1, ()))
    | Sum.inr p19 =>
     rec p19.1 (wrap64 (p19.2.1 + 1)) p19.2.2.1 p19.2.2.2.1 p19.2.2.2.2.1 p19.2.2.2.2.2.1 p19.2.2.2.2.2.2.1
  else none
 else
  some (Sum.inr (y2, y3, y4, y5, y6, ()))
noncomputable def spec_ImageFault_l5 : Nat → Int → Int → ByteArray → ByteArray → List Int → List ByteArray → List V2 → Option ((Int × Unit) ⊕ (ByteArray × ByteArray × List Int × List ByteArray × List V2 × Unit))
 | 0 => fun _ _ _ _ _ _ _ => none
 | n + 1 => spec_ImageFault_l5_step (spec_ImageFault_l5 n)
noncomputable def spec_ImageFault_l5.ent : LEntry := ⟨sk 1 (.cell (.fix (.ptr 1 0)) :: (sk 1 (.cell (.val .bor (.int .i64)) :: (.cell (.val .bor (.int .i64)) :: (sk 117 []))))), rk 1 ([.val .bor (.str), .val .bor (.str), .val .bor (.slice (.int .i64)), .val .bor (.slice (.str)), .val .bor (.slice R2)] :: (rk 120 [])), [], [], [⟨none, sk 2 (.cell (.val .bor (.int .i64)) :: (sk 119 [])), rk 122 [], [], []⟩, ⟨some 0, sk 1 (.cell (.fix (.ptr 1 0)) :: (sk 120 [])), rk 1 ([.val .bor (.str), .val .bor (.str), .val .bor (.slice (.int .i64)), .val .bor (.slice (.str)), .val .bor (.slice R2)] :: (rk 120 [])), [], []⟩], fun v => spec_ImageFault_l5 K0 v.1 v.2.1 v.2.2.1 v.2.2.2.1 v.2.2.2.2.1 v.2.2.2.2.2.1 v.2.2.2.2.2.2.1⟩
theorem spec_ImageFault_l5.eq : ∀ rec v, evStep spec_ImageFault.E5 (bodyAt 5 f30) spec_ImageFault_l5.ent.ins spec_ImageFault_l5.ent.rts spec_ImageFault_l5.ent.hm spec_ImageFault_l5.ent.nl spec_ImageFault_l5.ent.xs rec v = spec_ImageFault_l5_step (fun c0 c1 c2 c3 c4 c5 c6 => rec (c0, c1, c2, c3, c4, c5, c6, ())) v.1 v.2.1 v.2.2.1 v.2.2.2.1 v.2.2.2.2.1 v.2.2.2.2.2.1 v.2.2.2.2.2.2.1 := by intro rec v; kernel_rfl
noncomputable def spec_ImageFault.E15 : Env := ⟨D, [], [(44, spec_l13Name.ent), (45, spec_l13Table.ent), (46, spec_l13Uses.ent)], [(10, spec_ImageFault_l10.ent), (5, spec_ImageFault_l5.ent)]⟩
noncomputable def spec_ImageFault_l15_step (rec : Int → ByteArray → ByteArray → List Int → List ByteArray → List V2 → Option ((Int × Unit) ⊕ (Unit))) (y0 : Int) (y1 : ByteArray) (y2 : ByteArray) (y3 : List Int) (y4 : List ByteArray) (y5 : List V2) : Option ((Int × Unit) ⊕ (Unit)) :=
 let b23 : Bool := decide (y0 < (y4.length : Int))
 bif b23 then
  let b24 : Bool := (((rd (.str) y4 y0).size : Int) != 16)
  let r25 : Int × Unit := (spec_l13Uses y1 y2 y3 y4 y5 y0).getD (0, ())
  bif (decide (0 ≤ y0) && decide (y0 < (y4.length : Int))) && (!(!b24) || ((spec_l13Uses y1 y2 y3 y4 y5 y0).isSome)) then
   bif (b24 || (r25.1 == 0)) then
    some (Sum.inl (1, ()))
   else
    rec (wrap64 (y0 + 1)) y1 y2 y3 y4 y5
  else none
 else
  some (Sum.inr ())
noncomputable def spec_ImageFault_l15 : Nat → Int → ByteArray → ByteArray → List Int → List ByteArray → List V2 → Option ((Int × Unit) ⊕ (Unit))
 | 0 => fun _ _ _ _ _ _ => none
 | n + 1 => spec_ImageFault_l15_step (spec_ImageFault_l15 n)
noncomputable def spec_ImageFault_l15.ent : LEntry := ⟨sk 1 (.cell (.fix (.ptr 1 0)) :: (sk 4 (.cell (.val .bor (.int .i64)) :: (sk 115 [])))), rk 1 ([.val .bor (.str), .val .bor (.str), .val .bor (.slice (.int .i64)), .val .bor (.slice (.str)), .val .bor (.slice R2)] :: (rk 120 [])), [], [], [⟨none, sk 2 (.cell (.val .bor (.int .i64)) :: (sk 119 [])), rk 122 [], [], []⟩, ⟨some 4, sk 122 [], rk 122 [], [], []⟩], fun v => spec_ImageFault_l15 K0 v.1 v.2.1 v.2.2.1 v.2.2.2.1 v.2.2.2.2.1 v.2.2.2.2.2.1⟩
theorem spec_ImageFault_l15.eq : ∀ rec v, evStep spec_ImageFault.E15 (bodyAt 15 f30) spec_ImageFault_l15.ent.ins spec_ImageFault_l15.ent.rts spec_ImageFault_l15.ent.hm spec_ImageFault_l15.ent.nl spec_ImageFault_l15.ent.xs rec v = spec_ImageFault_l15_step (fun c0 c1 c2 c3 c4 c5 => rec (c0, c1, c2, c3, c4, c5, ())) v.1 v.2.1 v.2.2.1 v.2.2.2.1 v.2.2.2.2.1 v.2.2.2.2.2.1 := by intro rec v; kernel_rfl
noncomputable def spec_ImageFault.E : Env := ⟨D, [], [(44, spec_l13Name.ent), (45, spec_l13Table.ent), (46, spec_l13Uses.ent)], [(10, spec_ImageFault_l10.ent), (5, spec_ImageFault_l5.ent), (15, spec_ImageFault_l15.ent)]⟩
noncomputable def spec_ImageFault (a0 : ByteArray) (a1 : ByteArray) (a2 : List Int) (a3 : List ByteArray) (a4 : List V2) : Option (Int × Unit) :=
 (spec_l13Name a0).bind fun r1 =>
 let b2 : Bool := !seq a1 (⟨#[]⟩ : ByteArray)
 let r3 : Bool × Unit := (spec_l13Name a1).getD (false, ())
 let b4 : Bool := decide ((a2.length : Int) < 1)
 let b5 : Bool := ((!r1.1 || (b2 && !r3.1)) || b4)
 let b6 : Bool := decide ((a2.length : Int) > 64)
 let b7 : Bool := decide ((a3.length : Int) > 128)
 let b8 : Bool := decide ((a4.length : Int) > 8)
 let b9 : Bool := (((b5 || b6) || b7) || b8)
 let r10 : Bool × Unit := (spec_l13Table a2 (a2.length : Int) (a3.length : Int)).getD (false, ())
 bif (!(!(!r1.1)) || (!b2 || ((spec_l13Name a1).isSome))) && (!(!b9) || ((spec_l13Table a2 (a2.length : Int) (a3.length : Int)).isSome)) then
  bif (b9 || !r10.1) then
   some (1, ())
  else
   (spec_ImageFault_l5 K0 (a2.length : Int) 0 a0 a1 a2 a3 a4).bind fun o20 =>
   match o20 with
   | Sum.inl p21 =>
    some (p21.1, ())
   | Sum.inr p22 =>
    (spec_ImageFault_l15 K0 0 p22.1 p22.2.1 p22.2.2.1 p22.2.2.2.1 p22.2.2.2.2.1).bind fun o26 =>
    match o26 with
    | Sum.inl p27 =>
     some (p27.1, ())
    | Sum.inr p28 =>
     some (0, ())
 else none
noncomputable def spec_ImageFault.ent : Entry := ⟨[false], [.agg [.val .bor (.str), .val .bor (.str), .val .bor (.slice (.int .i64)), .val .bor (.slice (.str)), .val .bor (.slice R2)]], [.cell (.val .bor (.int .i64))], [], fun v => spec_ImageFault v.1 v.2.1 v.2.2.1 v.2.2.2.1 v.2.2.2.2.1⟩
theorem spec_ImageFault.eq : ∀ v, evFn spec_ImageFault.E f30 spec_ImageFault.ent.ptrs spec_ImageFault.ent.ins spec_ImageFault.ent.rets spec_ImageFault.ent.outs v = spec_ImageFault.ent.f v := by intro v; kernel_rfl
theorem spec_ImageFault.fok : ∀ q ∈ [((44 : Nat), spec_l13Name.ent), ((45 : Nat), spec_l13Table.ent), ((46 : Nat), spec_l13Uses.ent)], EntryOK Pr q.1 q.2 := by
 intro q hq
 simp only [List.mem_cons, List.mem_nil_iff, or_false] at hq
 rcases hq with rfl | rfl | rfl
 · exact spec_l13Name.ok
 · exact spec_l13Table.ok
 · exact spec_l13Uses.ok
theorem spec_ImageFault_l10.it : ∀ n v, iter (evStep spec_ImageFault.E10 (bodyAt 10 f30) spec_ImageFault_l10.ent.ins spec_ImageFault_l10.ent.rts spec_ImageFault_l10.ent.hm spec_ImageFault_l10.ent.nl spec_ImageFault_l10.ent.xs) n v = spec_ImageFault_l10 n v.1 v.2.1 v.2.2.1 v.2.2.2.1 v.2.2.2.2.1 v.2.2.2.2.2.1 v.2.2.2.2.2.2.1 v.2.2.2.2.2.2.2.1 := by
 intro n
 induction n with
 | zero => intro v; rfl
 | succ n ih =>
  intro v
  show (evStep spec_ImageFault.E10 (bodyAt 10 f30) spec_ImageFault_l10.ent.ins spec_ImageFault_l10.ent.rts spec_ImageFault_l10.ent.hm spec_ImageFault_l10.ent.nl spec_ImageFault_l10.ent.xs) (iter (evStep spec_ImageFault.E10 (bodyAt 10 f30) spec_ImageFault_l10.ent.ins spec_ImageFault_l10.ent.rts spec_ImageFault_l10.ent.hm spec_ImageFault_l10.ent.nl spec_ImageFault_l10.ent.xs) n) v = _
  rw [spec_ImageFault_l10.eq, show (fun c0 c1 c2 c3 c4 c5 c6 c7 => iter (evStep spec_ImageFault.E10 (bodyAt 10 f30) spec_ImageFault_l10.ent.ins spec_ImageFault_l10.ent.rts spec_ImageFault_l10.ent.hm spec_ImageFault_l10.ent.nl spec_ImageFault_l10.ent.xs) n (c0, c1, c2, c3, c4, c5, c6, c7, ())) = spec_ImageFault_l10 n from by funext c0 c1 c2 c3 c4 c5 c6 c7; exact ih _]
  rfl
theorem spec_ImageFault_l10.fr : firstRegion (bodyAt 10 f30) = 10 := by kernel_rfl
theorem spec_ImageFault_l10.ls : loopsOf (bodyAt 10 f30) = [] := by kernel_rfl
theorem spec_ImageFault_l10.lok {E : Env} (hpin : spec_ImageFault.E10.pin = E.pin) (hfind : find 10 E.loops = some spec_ImageFault_l10.ent) : LoopOK Pr E (bodyAt 10 f30) :=
 loop_of (E1 := spec_ImageFault.E10) (EnvOK.of dok spec_ImageFault.fok) mixed hpin (by rw [spec_ImageFault_l10.fr]; exact hfind) spec_ImageFault_l10.ls (by intro l hl; simp at hl) (fun v => (spec_ImageFault_l10.it K0 v).symm)
theorem spec_ImageFault_l5.it : ∀ n v, iter (evStep spec_ImageFault.E5 (bodyAt 5 f30) spec_ImageFault_l5.ent.ins spec_ImageFault_l5.ent.rts spec_ImageFault_l5.ent.hm spec_ImageFault_l5.ent.nl spec_ImageFault_l5.ent.xs) n v = spec_ImageFault_l5 n v.1 v.2.1 v.2.2.1 v.2.2.2.1 v.2.2.2.2.1 v.2.2.2.2.2.1 v.2.2.2.2.2.2.1 := by
 intro n
 induction n with
 | zero => intro v; rfl
 | succ n ih =>
  intro v
  show (evStep spec_ImageFault.E5 (bodyAt 5 f30) spec_ImageFault_l5.ent.ins spec_ImageFault_l5.ent.rts spec_ImageFault_l5.ent.hm spec_ImageFault_l5.ent.nl spec_ImageFault_l5.ent.xs) (iter (evStep spec_ImageFault.E5 (bodyAt 5 f30) spec_ImageFault_l5.ent.ins spec_ImageFault_l5.ent.rts spec_ImageFault_l5.ent.hm spec_ImageFault_l5.ent.nl spec_ImageFault_l5.ent.xs) n) v = _
  rw [spec_ImageFault_l5.eq, show (fun c0 c1 c2 c3 c4 c5 c6 => iter (evStep spec_ImageFault.E5 (bodyAt 5 f30) spec_ImageFault_l5.ent.ins spec_ImageFault_l5.ent.rts spec_ImageFault_l5.ent.hm spec_ImageFault_l5.ent.nl spec_ImageFault_l5.ent.xs) n (c0, c1, c2, c3, c4, c5, c6, ())) = spec_ImageFault_l5 n from by funext c0 c1 c2 c3 c4 c5 c6; exact ih _]
  rfl
theorem spec_ImageFault_l5.fr : firstRegion (bodyAt 5 f30) = 5 := by kernel_rfl
theorem spec_ImageFault_l5.ls : loopsOf (bodyAt 5 f30) = [bodyAt 10 f30] := by kernel_rfl
theorem spec_ImageFault_l5.lok {E : Env} (hpin : spec_ImageFault.E5.pin = E.pin) (hfind : find 5 E.loops = some spec_ImageFault_l5.ent) : LoopOK Pr E (bodyAt 5 f30) :=
 loop_of (E1 := spec_ImageFault.E5) (EnvOK.of dok spec_ImageFault.fok) mixed hpin (by rw [spec_ImageFault_l5.fr]; exact hfind) spec_ImageFault_l5.ls (by intro l hl; simp only [List.mem_singleton] at hl; subst hl; exact spec_ImageFault_l10.lok rfl rfl) (fun v => (spec_ImageFault_l5.it K0 v).symm)
theorem spec_ImageFault_l15.it : ∀ n v, iter (evStep spec_ImageFault.E15 (bodyAt 15 f30) spec_ImageFault_l15.ent.ins spec_ImageFault_l15.ent.rts spec_ImageFault_l15.ent.hm spec_ImageFault_l15.ent.nl spec_ImageFault_l15.ent.xs) n v = spec_ImageFault_l15 n v.1 v.2.1 v.2.2.1 v.2.2.2.1 v.2.2.2.2.1 v.2.2.2.2.2.1 := by
 intro n
 induction n with
 | zero => intro v; rfl
 | succ n ih =>
  intro v
  show (evStep spec_ImageFault.E15 (bodyAt 15 f30) spec_ImageFault_l15.ent.ins spec_ImageFault_l15.ent.rts spec_ImageFault_l15.ent.hm spec_ImageFault_l15.ent.nl spec_ImageFault_l15.ent.xs) (iter (evStep spec_ImageFault.E15 (bodyAt 15 f30) spec_ImageFault_l15.ent.ins spec_ImageFault_l15.ent.rts spec_ImageFault_l15.ent.hm spec_ImageFault_l15.ent.nl spec_ImageFault_l15.ent.xs) n) v = _
  rw [spec_ImageFault_l15.eq, show (fun c0 c1 c2 c3 c4 c5 => iter (evStep spec_ImageFault.E15 (bodyAt 15 f30) spec_ImageFault_l15.ent.ins spec_ImageFault_l15.ent.rts spec_ImageFault_l15.ent.hm spec_ImageFault_l15.ent.nl spec_ImageFault_l15.ent.xs) n (c0, c1, c2, c3, c4, c5, ())) = spec_ImageFault_l15 n from by funext c0 c1 c2 c3 c4 c5; exact ih _]
  rfl
theorem spec_ImageFault_l15.fr : firstRegion (bodyAt 15 f30) = 15 := by kernel_rfl
theorem spec_ImageFault_l15.ls : loopsOf (bodyAt 15 f30) = [] := by kernel_rfl
theorem spec_ImageFault_l15.lok {E : Env} (hpin : spec_ImageFault.E15.pin = E.pin) (hfind : find 15 E.loops = some spec_ImageFault_l15.ent) : LoopOK Pr E (bodyAt 15 f30) :=
 loop_of (E1 := spec_ImageFault.E15) (EnvOK.of dok spec_ImageFault.fok) mixed hpin (by rw [spec_ImageFault_l15.fr]; exact hfind) spec_ImageFault_l15.ls (by intro l hl; simp at hl) (fun v => (spec_ImageFault_l15.it K0 v).symm)
theorem spec_ImageFault.ls : loopsOf (bodyOf f30) = [bodyAt 5 f30, bodyAt 10 f30, bodyAt 15 f30] := by kernel_rfl
theorem spec_ImageFault.ok : EntryOK Pr 30 spec_ImageFault.ent :=
 entry_ok (E := spec_ImageFault.E) (EnvOK.of dok spec_ImageFault.fok) mixed (fn := f30) (by kernel_rfl) (by kernel_rfl) (by decide) spec_ImageFault.ls (by
  intro l hl
  simp only [List.mem_cons, List.mem_nil_iff, or_false] at hl
  rcases hl with rfl | rfl | rfl
  · exact spec_ImageFault_l5.lok rfl rfl
  · exact spec_ImageFault_l10.lok rfl rfl
  · exact spec_ImageFault_l15.lok rfl rfl) spec_ImageFault.eq
/-! ### loop.example/g00038/spec.l13Find -/
noncomputable def spec_l13Find.E2 : Env := ⟨D, [], [], []⟩
noncomputable def spec_l13Find_l2_step (rec : List V1 → ByteArray → Int → Option ((Int × Unit) ⊕ (Unit))) (y0 : List V1) (y1 : ByteArray) (y2 : Int) : Option ((Int × Unit) ⊕ (Unit)) :=
 let b1 : Bool := decide (y2 < (y0.length : Int))
 bif b1 then
  let e2 : V1 := rd R1 y0 y2
  bif decide (0 ≤ y2) && decide (y2 < (y0.length : Int)) then
   bif seq e2.1 y1 then
    some (Sum.inl (y2, ()))
   else
    rec y0 y1 (wrap64 (y2 + 1))
  else none
 else
  some (Sum.inr ())
noncomputable def spec_l13Find_l2 : Nat → List V1 → ByteArray → Int → Option ((Int × Unit) ⊕ (Unit))
 | 0 => fun _ _ _ => none
 | n + 1 => spec_l13Find_l2_step (spec_l13Find_l2 n)
noncomputable def spec_l13Find_l2.ent : LEntry := ⟨(.cell (.val .bor (.slice R1)) :: (.cell (.val .bor (.str)) :: (sk 3 (.cell (.val .bor (.int .i64)) :: (sk 14 []))))), rk 20 [], [], [], [⟨none, sk 4 (.cell (.val .bor (.int .i64)) :: (sk 15 [])), rk 20 [], [], []⟩, ⟨some 0, sk 20 [], rk 20 [], [], []⟩], fun v => spec_l13Find_l2 K0 v.1 v.2.1 v.2.2.1⟩
theorem spec_l13Find_l2.eq : ∀ rec v, evStep spec_l13Find.E2 (bodyAt 2 f12) spec_l13Find_l2.ent.ins spec_l13Find_l2.ent.rts spec_l13Find_l2.ent.hm spec_l13Find_l2.ent.nl spec_l13Find_l2.ent.xs rec v = spec_l13Find_l2_step (fun c0 c1 c2 => rec (c0, c1, c2, ())) v.1 v.2.1 v.2.2.1 := by intro rec v; kernel_rfl
noncomputable def spec_l13Find.E : Env := ⟨D, [], [], [(2, spec_l13Find_l2.ent)]⟩
noncomputable def spec_l13Find (a0 : List V1) (a1 : ByteArray) : Option (Int × Unit) :=
 (spec_l13Find_l2 K0 a0 a1 0).bind fun o3 =>
 match o3 with
 | Sum.inl p4 =>
  some (p4.1, ())
 | Sum.inr p5 =>
  some (-1, ())
noncomputable def spec_l13Find.ent : Entry := ⟨[false, false], [.cell (.val .bor (.slice R1)), .cell (.val .bor (.str))], [.cell (.val .bor (.int .i64))], [], fun v => spec_l13Find v.1 v.2.1⟩
theorem spec_l13Find.eq : ∀ v, evFn spec_l13Find.E f12 spec_l13Find.ent.ptrs spec_l13Find.ent.ins spec_l13Find.ent.rets spec_l13Find.ent.outs v = spec_l13Find.ent.f v := by intro v; kernel_rfl
theorem spec_l13Find.fok : ∀ q ∈ ([] : List (Nat × Entry)), EntryOK Pr q.1 q.2 := by intro q hq; simp at hq
theorem spec_l13Find_l2.it : ∀ n v, iter (evStep spec_l13Find.E2 (bodyAt 2 f12) spec_l13Find_l2.ent.ins spec_l13Find_l2.ent.rts spec_l13Find_l2.ent.hm spec_l13Find_l2.ent.nl spec_l13Find_l2.ent.xs) n v = spec_l13Find_l2 n v.1 v.2.1 v.2.2.1 := by
 intro n
 induction n with
 | zero => intro v; rfl
 | succ n ih =>
  intro v
  show (evStep spec_l13Find.E2 (bodyAt 2 f12) spec_l13Find_l2.ent.ins spec_l13Find_l2.ent.rts spec_l13Find_l2.ent.hm spec_l13Find_l2.ent.nl spec_l13Find_l2.ent.xs) (iter (evStep spec_l13Find.E2 (bodyAt 2 f12) spec_l13Find_l2.ent.ins spec_l13Find_l2.ent.rts spec_l13Find_l2.ent.hm spec_l13Find_l2.ent.nl spec_l13Find_l2.ent.xs) n) v = _
  rw [spec_l13Find_l2.eq, show (fun c0 c1 c2 => iter (evStep spec_l13Find.E2 (bodyAt 2 f12) spec_l13Find_l2.ent.ins spec_l13Find_l2.ent.rts spec_l13Find_l2.ent.hm spec_l13Find_l2.ent.nl spec_l13Find_l2.ent.xs) n (c0, c1, c2, ())) = spec_l13Find_l2 n from by funext c0 c1 c2; exact ih _]
  rfl
theorem spec_l13Find_l2.fr : firstRegion (bodyAt 2 f12) = 2 := by kernel_rfl
theorem spec_l13Find_l2.ls : loopsOf (bodyAt 2 f12) = [] := by kernel_rfl
theorem spec_l13Find_l2.lok {E : Env} (hpin : spec_l13Find.E2.pin = E.pin) (hfind : find 2 E.loops = some spec_l13Find_l2.ent) : LoopOK Pr E (bodyAt 2 f12) :=
 loop_of (E1 := spec_l13Find.E2) (EnvOK.of dok spec_l13Find.fok) mixed hpin (by rw [spec_l13Find_l2.fr]; exact hfind) spec_l13Find_l2.ls (by intro l hl; simp at hl) (fun v => (spec_l13Find_l2.it K0 v).symm)
theorem spec_l13Find.ls : loopsOf (bodyOf f12) = [bodyAt 2 f12] := by kernel_rfl
theorem spec_l13Find.ok : EntryOK Pr 12 spec_l13Find.ent :=
 entry_ok (E := spec_l13Find.E) (EnvOK.of dok spec_l13Find.fok) mixed (fn := f12) (by kernel_rfl) (by kernel_rfl) (by decide) spec_l13Find.ls (by intro l hl; simp only [List.mem_singleton] at hl; subst hl; exact spec_l13Find_l2.lok rfl rfl) spec_l13Find.eq
/-! ### loop.example/g00038/spec.ChainFault -/
noncomputable def spec_ChainFault.E4 : Env := ⟨D, [], [(30, spec_ImageFault.ent), (12, spec_l13Find.ent)], []⟩
noncomputable def spec_ChainFault_l4_step (rec : List V1 → Int → Option ((Int × Unit) ⊕ (List V1 × Unit))) (y0 : List V1) (y1 : Int) : Option ((Int × Unit) ⊕ (List V1 × Unit)) :=
 let b2 : Bool := decide (y1 < (y0.length : Int))
 bif b2 then
  let e3 : V1 := rd R1 y0 y1
  (spec_ImageFault e3.1 e3.2.1 e3.2.2.1 e3.2.2.2.1 e3.2.2.2.2).bind fun r4 =>
  let r5 : Int × Unit := (spec_l13Find y0 e3.1).getD (0, ())
  let b6 : Bool := ((r4.1 != 0) || (r5.1 != y1))
  bif (decide (0 ≤ y1) && decide (y1 < (y0.length : Int))) && ((!(!(r4.1 != 0)) || (decide (0 ≤ y1) && decide (y1 < (y0.length : Int)))) && (!(!(r4.1 != 0)) || ((spec_l13Find y0 e3.1).isSome))) then
   bif b6 then
    some (Sum.inl (1, ()))
   else
    rec y0 (wrap64 (y1 + 1))
  else none
 else
  some (Sum.inr (y0, ()))
noncomputable def spec_ChainFault_l4 : Nat → List V1 → Int → Option ((Int × Unit) ⊕ (List V1 × Unit))
 | 0 => fun _ _ => none
 | n + 1 => spec_ChainFault_l4_step (spec_ChainFault_l4 n)
noncomputable def spec_ChainFault_l4.ent : LEntry := ⟨(.cell (.val .bor (.slice R1)) :: (sk 2 (.cell (.val .bor (.int .i64)) :: (sk 57 [])))), rk 61 [], [], [], [⟨none, sk 2 (.cell (.val .bor (.int .i64)) :: (sk 58 [])), rk 61 [], [], []⟩, ⟨some 0, (.cell (.val .bor (.slice R1)) :: (sk 60 [])), rk 61 [], [], []⟩], fun v => spec_ChainFault_l4 K0 v.1 v.2.1⟩
theorem spec_ChainFault_l4.eq : ∀ rec v, evStep spec_ChainFault.E4 (bodyAt 4 f11) spec_ChainFault_l4.ent.ins spec_ChainFault_l4.ent.rts spec_ChainFault_l4.ent.hm spec_ChainFault_l4.ent.nl spec_ChainFault_l4.ent.xs rec v = spec_ChainFault_l4_step (fun c0 c1 => rec (c0, c1, ())) v.1 v.2.1 := by intro rec v; kernel_rfl
noncomputable def spec_ChainFault.E13 : Env := ⟨D, [], [(30, spec_ImageFault.ent), (12, spec_l13Find.ent)], [(4, spec_ChainFault_l4.ent)]⟩
noncomputable def spec_ChainFault_l13_step (rec : List V1 → Int → Int → Int → Option ((Int × Unit) ⊕ (List V1 × Int × Unit))) (y0 : List V1) (y1 : Int) (y2 : Int) (y3 : Int) : Option ((Int × Unit) ⊕ (List V1 × Int × Unit)) :=
 let e11 : V1 := rd R1 y0 y2
 let b12 : Bool := !seq e11.2.1 (⟨#[]⟩ : ByteArray)
 bif decide (0 ≤ y2) && decide (y2 < (y0.length : Int)) then
  bif b12 then
   (spec_l13Find y0 e11.2.1).bind fun r13 =>
   bif decide (0 ≤ y2) && decide (y2 < (y0.length : Int)) then
    let b14 : Bool := (decide (r13.1 < 0) || decide (y3 > 12))
    bif b14 then
     some (Sum.inl (1, ()))
    else
     rec y0 y1 r13.1 (wrap64 (y3 + 1))
   else none
  else
   some (Sum.inr (y0, y1, ()))
 else none
noncomputable def spec_ChainFault_l13 : Nat → List V1 → Int → Int → Int → Option ((Int × Unit) ⊕ (List V1 × Int × Unit))
 | 0 => fun _ _ _ _ => none
 | n + 1 => spec_ChainFault_l13_step (spec_ChainFault_l13 n)
noncomputable def spec_ChainFault_l13.ent : LEntry := ⟨(.cell (.val .bor (.slice R1)) :: (sk 3 (.cell (.val .bor (.int .i64)) :: (.cell (.val .bor (.int .i64)) :: (.cell (.val .bor (.int .i64)) :: (sk 54 [])))))), rk 61 [], [], [], [⟨none, sk 2 (.cell (.val .bor (.int .i64)) :: (sk 58 [])), rk 61 [], [], []⟩, ⟨some 4, (.cell (.val .bor (.slice R1)) :: (sk 3 (.cell (.val .bor (.int .i64)) :: (sk 56 [])))), rk 61 [], [], []⟩], fun v => spec_ChainFault_l13 K0 v.1 v.2.1 v.2.2.1 v.2.2.2.1⟩
theorem spec_ChainFault_l13.eq : ∀ rec v, evStep spec_ChainFault.E13 (bodyAt 13 f11) spec_ChainFault_l13.ent.ins spec_ChainFault_l13.ent.rts spec_ChainFault_l13.ent.hm spec_ChainFault_l13.ent.nl spec_ChainFault_l13.ent.xs rec v = spec_ChainFault_l13_step (fun c0 c1 c2 c3 => rec (c0, c1, c2, c3, ())) v.1 v.2.1 v.2.2.1 v.2.2.2.1 := by intro rec v; kernel_rfl
noncomputable def spec_ChainFault.E9 : Env := ⟨D, [], [(30, spec_ImageFault.ent), (12, spec_l13Find.ent)], [(4, spec_ChainFault_l4.ent), (13, spec_ChainFault_l13.ent)]⟩
noncomputable def spec_ChainFault_l9_step (rec : List V1 → Int → Option ((Int × Unit) ⊕ (Unit))) (y0 : List V1) (y1 : Int) : Option ((Int × Unit) ⊕ (Unit)) :=
 let b10 : Bool := decide (y1 < (y0.length : Int))
 bif b10 then
  (spec_ChainFault_l13 K0 y0 y1 y1 0).bind fun o15 =>
  match o15 with
  | Sum.inl p16 =>
   some (Sum.inl (p16.1, ()))
  | Sum.inr p17 =>
   rec p17.1 (wrap64 (p17.2.1 + 1))
 else
  some (Sum.inr ())
noncomputable def spec_ChainFault_l9 : Nat → List V1 → Int → Option ((Int × Unit) ⊕ (Unit))
 | 0 => fun _ _ => none
 | n + 1 => spec_ChainFault_l9_step (spec_ChainFault_l9 n)
noncomputable def spec_ChainFault_l9.ent : LEntry := ⟨(.cell (.val .bor (.slice R1)) :: (sk 3 (.cell (.val .bor (.int .i64)) :: (sk 56 [])))), rk 61 [], [], [], [⟨none, sk 2 (.cell (.val .bor (.int .i64)) :: (sk 58 [])), rk 61 [], [], []⟩, ⟨some 2, sk 61 [], rk 61 [], [], []⟩], fun v => spec_ChainFault_l9 K0 v.1 v.2.1⟩
theorem spec_ChainFault_l9.eq : ∀ rec v, evStep spec_ChainFault.E9 (bodyAt 9 f11) spec_ChainFault_l9.ent.ins spec_ChainFault_l9.ent.rts spec_ChainFault_l9.ent.hm spec_ChainFault_l9.ent.nl spec_ChainFault_l9.ent.xs rec v = spec_ChainFault_l9_step (fun c0 c1 => rec (c0, c1, ())) v.1 v.2.1 := by intro rec v; kernel_rfl
noncomputable def spec_ChainFault.E : Env := ⟨D, [], [(30, spec_ImageFault.ent), (12, spec_l13Find.ent)], [(4, spec_ChainFault_l4.ent), (13, spec_ChainFault_l13.ent), (9, spec_ChainFault_l9.ent)]⟩
noncomputable def spec_ChainFault (a0 : List V1) : Option (Int × Unit) :=
 let b1 : Bool := decide ((a0.length : Int) > 12)
 bif b1 then
  some (1, ())
 else
  (spec_ChainFault_l4 K0 a0 0).bind fun o7 =>
  match o7 with
  | Sum.inl p8 =>
   some (p8.1, ())
  | Sum.inr p9 =>
   (spec_ChainFault_l9 K0 p9.1 0).bind fun o18 =>
   match o18 with
   | Sum.inl p19 =>
    some (p19.1, ())
   | Sum.inr p20 =>
    some (0, ())
noncomputable def spec_ChainFault.ent : Entry := ⟨[false], [.cell (.val .bor (.slice R1))], [.cell (.val .bor (.int .i64))], [], fun v => spec_ChainFault v.1⟩
theorem spec_ChainFault.eq : ∀ v, evFn spec_ChainFault.E f11 spec_ChainFault.ent.ptrs spec_ChainFault.ent.ins spec_ChainFault.ent.rets spec_ChainFault.ent.outs v = spec_ChainFault.ent.f v := by intro v; kernel_rfl
theorem spec_ChainFault.fok : ∀ q ∈ [((30 : Nat), spec_ImageFault.ent), ((12 : Nat), spec_l13Find.ent)], EntryOK Pr q.1 q.2 := by
 intro q hq
 simp only [List.mem_cons, List.mem_nil_iff, or_false] at hq
 rcases hq with rfl | rfl
 · exact spec_ImageFault.ok
 · exact spec_l13Find.ok
theorem spec_ChainFault_l4.it : ∀ n v, iter (evStep spec_ChainFault.E4 (bodyAt 4 f11) spec_ChainFault_l4.ent.ins spec_ChainFault_l4.ent.rts spec_ChainFault_l4.ent.hm spec_ChainFault_l4.ent.nl spec_ChainFault_l4.ent.xs) n v = spec_ChainFault_l4 n v.1 v.2.1 := by
 intro n
 induction n with
 | zero => intro v; rfl
 | succ n ih =>
  intro v
  show (evStep spec_ChainFault.E4 (bodyAt 4 f11) spec_ChainFault_l4.ent.ins spec_ChainFault_l4.ent.rts spec_ChainFault_l4.ent.hm spec_ChainFault_l4.ent.nl spec_ChainFault_l4.ent.xs) (iter (evStep spec_ChainFault.E4 (bodyAt 4 f11) spec_ChainFault_l4.ent.ins spec_ChainFault_l4.ent.rts spec_ChainFault_l4.ent.hm spec_ChainFault_l4.ent.nl spec_ChainFault_l4.ent.xs) n) v = _
  rw [spec_ChainFault_l4.eq, show (fun c0 c1 => iter (evStep spec_ChainFault.E4 (bodyAt 4 f11) spec_ChainFault_l4.ent.ins spec_ChainFault_l4.ent.rts spec_ChainFault_l4.ent.hm spec_ChainFault_l4.ent.nl spec_ChainFault_l4.ent.xs) n (c0, c1, ())) = spec_ChainFault_l4 n from by funext c0 c1; exact ih _]
  rfl
theorem spec_ChainFault_l4.fr : firstRegion (bodyAt 4 f11) = 4 := by kernel_rfl
theorem spec_ChainFault_l4.ls : loopsOf (bodyAt 4 f11) = [] := by kernel_rfl
theorem spec_ChainFault_l4.lok {E : Env} (hpin : spec_ChainFault.E4.pin = E.pin) (hfind : find 4 E.loops = some spec_ChainFault_l4.ent) : LoopOK Pr E (bodyAt 4 f11) :=
 loop_of (E1 := spec_ChainFault.E4) (EnvOK.of dok spec_ChainFault.fok) mixed hpin (by rw [spec_ChainFault_l4.fr]; exact hfind) spec_ChainFault_l4.ls (by intro l hl; simp at hl) (fun v => (spec_ChainFault_l4.it K0 v).symm)
theorem spec_ChainFault_l13.it : ∀ n v, iter (evStep spec_ChainFault.E13 (bodyAt 13 f11) spec_ChainFault_l13.ent.ins spec_ChainFault_l13.ent.rts spec_ChainFault_l13.ent.hm spec_ChainFault_l13.ent.nl spec_ChainFault_l13.ent.xs) n v = spec_ChainFault_l13 n v.1 v.2.1 v.2.2.1 v.2.2.2.1 := by
 intro n
 induction n with
 | zero => intro v; rfl
 | succ n ih =>
  intro v
  show (evStep spec_ChainFault.E13 (bodyAt 13 f11) spec_ChainFault_l13.ent.ins spec_ChainFault_l13.ent.rts spec_ChainFault_l13.ent.hm spec_ChainFault_l13.ent.nl spec_ChainFault_l13.ent.xs) (iter (evStep spec_ChainFault.E13 (bodyAt 13 f11) spec_ChainFault_l13.ent.ins spec_ChainFault_l13.ent.rts spec_ChainFault_l13.ent.hm spec_ChainFault_l13.ent.nl spec_ChainFault_l13.ent.xs) n) v = _
  rw [spec_ChainFault_l13.eq, show (fun c0 c1 c2 c3 => iter (evStep spec_ChainFault.E13 (bodyAt 13 f11) spec_ChainFault_l13.ent.ins spec_ChainFault_l13.ent.rts spec_ChainFault_l13.ent.hm spec_ChainFault_l13.ent.nl spec_ChainFault_l13.ent.xs) n (c0, c1, c2, c3, ())) = spec_ChainFault_l13 n from by funext c0 c1 c2 c3; exact ih _]
  rfl
theorem spec_ChainFault_l13.fr : firstRegion (bodyAt 13 f11) = 13 := by kernel_rfl
theorem spec_ChainFault_l13.ls : loopsOf (bodyAt 13 f11) = [] := by kernel_rfl
theorem spec_ChainFault_l13.lok {E : Env} (hpin : spec_ChainFault.E13.pin = E.pin) (hfind : find 13 E.loops = some spec_ChainFault_l13.ent) : LoopOK Pr E (bodyAt 13 f11) :=
 loop_of (E1 := spec_ChainFault.E13) (EnvOK.of dok spec_ChainFault.fok) mixed hpin (by rw [spec_ChainFault_l13.fr]; exact hfind) spec_ChainFault_l13.ls (by intro l hl; simp at hl) (fun v => (spec_ChainFault_l13.it K0 v).symm)
theorem spec_ChainFault_l9.it : ∀ n v, iter (evStep spec_ChainFault.E9 (bodyAt 9 f11) spec_ChainFault_l9.ent.ins spec_ChainFault_l9.ent.rts spec_ChainFault_l9.ent.hm spec_ChainFault_l9.ent.nl spec_ChainFault_l9.ent.xs) n v = spec_ChainFault_l9 n v.1 v.2.1 := by
 intro n
 induction n with
 | zero => intro v; rfl
 | succ n ih =>
  intro v
  show (evStep spec_ChainFault.E9 (bodyAt 9 f11) spec_ChainFault_l9.ent.ins spec_ChainFault_l9.ent.rts spec_ChainFault_l9.ent.hm spec_ChainFault_l9.ent.nl spec_ChainFault_l9.ent.xs) (iter (evStep spec_ChainFault.E9 (bodyAt 9 f11) spec_ChainFault_l9.ent.ins spec_ChainFault_l9.ent.rts spec_ChainFault_l9.ent.hm spec_ChainFault_l9.ent.nl spec_ChainFault_l9.ent.xs) n) v = _
  rw [spec_ChainFault_l9.eq, show (fun c0 c1 => iter (evStep spec_ChainFault.E9 (bodyAt 9 f11) spec_ChainFault_l9.ent.ins spec_ChainFault_l9.ent.rts spec_ChainFault_l9.ent.hm spec_ChainFault_l9.ent.nl spec_ChainFault_l9.ent.xs) n (c0, c1, ())) = spec_ChainFault_l9 n from by funext c0 c1; exact ih _]
  rfl
theorem spec_ChainFault_l9.fr : firstRegion (bodyAt 9 f11) = 9 := by kernel_rfl
theorem spec_ChainFault_l9.ls : loopsOf (bodyAt 9 f11) = [bodyAt 13 f11] := by kernel_rfl
theorem spec_ChainFault_l9.lok {E : Env} (hpin : spec_ChainFault.E9.pin = E.pin) (hfind : find 9 E.loops = some spec_ChainFault_l9.ent) : LoopOK Pr E (bodyAt 9 f11) :=
 loop_of (E1 := spec_ChainFault.E9) (EnvOK.of dok spec_ChainFault.fok) mixed hpin (by rw [spec_ChainFault_l9.fr]; exact hfind) spec_ChainFault_l9.ls (by intro l hl; simp only [List.mem_singleton] at hl; subst hl; exact spec_ChainFault_l13.lok rfl rfl) (fun v => (spec_ChainFault_l9.it K0 v).symm)
theorem spec_ChainFault.ls : loopsOf (bodyOf f11) = [bodyAt 4 f11, bodyAt 9 f11, bodyAt 13 f11] := by kernel_rfl
theorem spec_ChainFault.ok : EntryOK Pr 11 spec_ChainFault.ent :=
 entry_ok (E := spec_ChainFault.E) (EnvOK.of dok spec_ChainFault.fok) mixed (fn := f11) (by kernel_rfl) (by kernel_rfl) (by decide) spec_ChainFault.ls (by
  intro l hl
  simp only [List.mem_cons, List.mem_nil_iff, or_false] at hl
  rcases hl with rfl | rfl | rfl
  · exact spec_ChainFault_l4.lok rfl rfl
  · exact spec_ChainFault_l9.lok rfl rfl
  · exact spec_ChainFault_l13.lok rfl rfl) spec_ChainFault.eq
/-! ### loop.example/g00038/spec.l14Behind -/
noncomputable def spec_l14Behind.E3 : Env := ⟨D, [], [], []⟩
noncomputable def spec_l14Behind_l3_step (rec : List V1 → ByteArray → Int → Int → Option ((Int × Unit))) (y0 : List V1) (y1 : ByteArray) (y2 : Int) (y3 : Int) : Option ((Int × Unit)) :=
 let b1 : Bool := decide (y3 < (y0.length : Int))
 bif b1 then
  let e2 : V1 := rd R1 y0 y3
  bif decide (0 ≤ y3) && decide (y3 < (y0.length : Int)) then
   let l3 : List V1 := (bif seq e2.2.1 y1 then y0 else y0)
   let s4 : ByteArray := (bif seq e2.2.1 y1 then y1 else y1)
   let x5 : Int := (bif seq e2.2.1 y1 then (wrap64 (y2 + 1)) else y2)
   let x6 : Int := (bif seq e2.2.1 y1 then y3 else y3)
   rec l3 s4 x5 (wrap64 (x6 + 1))
  else none
 else
  some (y2, ())
noncomputable def spec_l14Behind_l3 : Nat → List V1 → ByteArray → Int → Int → Option ((Int × Unit))
 | 0 => fun _ _ _ _ => none
 | n + 1 => spec_l14Behind_l3_step (spec_l14Behind_l3 n)
noncomputable def spec_l14Behind_l3.ent : LEntry := ⟨(.cell (.val .bor (.slice R1)) :: (.cell (.val .bor (.str)) :: (sk 3 (.cell (.val .bor (.int .i64)) :: (.cell (.val .bor (.int .i64)) :: (sk 16 [])))))), rk 23 [], [], [], [⟨some 0, sk 5 (.cell (.val .bor (.int .i64)) :: (sk 17 [])), rk 23 [], [], []⟩], fun v => spec_l14Behind_l3 K0 v.1 v.2.1 v.2.2.1 v.2.2.2.1⟩
theorem spec_l14Behind_l3.eq : ∀ rec v, evStep spec_l14Behind.E3 (bodyAt 3 f13) spec_l14Behind_l3.ent.ins spec_l14Behind_l3.ent.rts spec_l14Behind_l3.ent.hm spec_l14Behind_l3.ent.nl spec_l14Behind_l3.ent.xs rec v = spec_l14Behind_l3_step (fun c0 c1 c2 c3 => rec (c0, c1, c2, c3, ())) v.1 v.2.1 v.2.2.1 v.2.2.2.1 := by intro rec v; kernel_rfl
noncomputable def spec_l14Behind.E : Env := ⟨D, [], [], [(3, spec_l14Behind_l3.ent)]⟩
noncomputable def spec_l14Behind (a0 : List V1) (a1 : ByteArray) : Option (Int × Unit) :=
 (spec_l14Behind_l3 K0 a0 a1 0 0).bind fun o11 =>
 some (o11.1, ())
noncomputable def spec_l14Behind.ent : Entry := ⟨[false, false], [.cell (.val .bor (.slice R1)), .cell (.val .bor (.str))], [.cell (.val .bor (.int .i64))], [], fun v => spec_l14Behind v.1 v.2.1⟩
theorem spec_l14Behind.eq : ∀ v, evFn spec_l14Behind.E f13 spec_l14Behind.ent.ptrs spec_l14Behind.ent.ins spec_l14Behind.ent.rets spec_l14Behind.ent.outs v = spec_l14Behind.ent.f v := by intro v; kernel_rfl
theorem spec_l14Behind.fok : ∀ q ∈ ([] : List (Nat × Entry)), EntryOK Pr q.1 q.2 := by intro q hq; simp at hq
theorem spec_l14Behind_l3.it : ∀ n v, iter (evStep spec_l14Behind.E3 (bodyAt 3 f13) spec_l14Behind_l3.ent.ins spec_l14Behind_l3.ent.rts spec_l14Behind_l3.ent.hm spec_l14Behind_l3.ent.nl spec_l14Behind_l3.ent.xs) n v = spec_l14Behind_l3 n v.1 v.2.1 v.2.2.1 v.2.2.2.1 := by
 intro n
 induction n with
 | zero => intro v; rfl
 | succ n ih =>
  intro v
  show (evStep spec_l14Behind.E3 (bodyAt 3 f13) spec_l14Behind_l3.ent.ins spec_l14Behind_l3.ent.rts spec_l14Behind_l3.ent.hm spec_l14Behind_l3.ent.nl spec_l14Behind_l3.ent.xs) (iter (evStep spec_l14Behind.E3 (bodyAt 3 f13) spec_l14Behind_l3.ent.ins spec_l14Behind_l3.ent.rts spec_l14Behind_l3.ent.hm spec_l14Behind_l3.ent.nl spec_l14Behind_l3.ent.xs) n) v = _
  rw [spec_l14Behind_l3.eq, show (fun c0 c1 c2 c3 => iter (evStep spec_l14Behind.E3 (bodyAt 3 f13) spec_l14Behind_l3.ent.ins spec_l14Behind_l3.ent.rts spec_l14Behind_l3.ent.hm spec_l14Behind_l3.ent.nl spec_l14Behind_l3.ent.xs) n (c0, c1, c2, c3, ())) = spec_l14Behind_l3 n from by funext c0 c1 c2 c3; exact ih _]
  rfl
theorem spec_l14Behind_l3.fr : firstRegion (bodyAt 3 f13) = 3 := by kernel_rfl
theorem spec_l14Behind_l3.ls : loopsOf (bodyAt 3 f13) = [] := by kernel_rfl
theorem spec_l14Behind_l3.lok {E : Env} (hpin : spec_l14Behind.E3.pin = E.pin) (hfind : find 3 E.loops = some spec_l14Behind_l3.ent) : LoopOK Pr E (bodyAt 3 f13) :=
 loop_of (E1 := spec_l14Behind.E3) (EnvOK.of dok spec_l14Behind.fok) mixed hpin (by rw [spec_l14Behind_l3.fr]; exact hfind) spec_l14Behind_l3.ls (by intro l hl; simp at hl) (fun v => (spec_l14Behind_l3.it K0 v).symm)
theorem spec_l14Behind.ls : loopsOf (bodyOf f13) = [bodyAt 3 f13] := by kernel_rfl
theorem spec_l14Behind.ok : EntryOK Pr 13 spec_l14Behind.ent :=
 entry_ok (E := spec_l14Behind.E) (EnvOK.of dok spec_l14Behind.fok) mixed (fn := f13) (by kernel_rfl) (by kernel_rfl) (by decide) spec_l14Behind.ls (by intro l hl; simp only [List.mem_singleton] at hl; subst hl; exact spec_l14Behind_l3.lok rfl rfl) spec_l14Behind.eq
/-! ### loop.example/g00038/spec.l14May -/
noncomputable def spec_l14May.E : Env := ⟨D, [], [(12, spec_l13Find.ent), (13, spec_l14Behind.ent)], []⟩
noncomputable def spec_l14May (a0 : List V1) (a1 : ByteArray) (a2 : Int) (a3 : Int) (a4 : ByteArray) (a5 : ByteArray) (a6 : Int) (a7 : ByteArray) : Option (Int × Unit) :=
 (spec_l13Find a0 a1).bind fun r1 =>
 let e2 : V1 := rd R1 a0 r1.1
 bif decide (0 ≤ r1.1) && decide (r1.1 < (a0.length : Int)) then
  let b3 : Bool := (decide (a6 < 1) || decide (a6 > 3))
  let b4 : Bool := seq a7 (⟨#[]⟩ : ByteArray)
  let b5 : Bool := (b3 || !(b4 == (a6 != 3)))
  bif b5 then
   some (1, ())
  else
  bif (a6 == 3) then
   (spec_l13Find a0 a7).bind fun r6 =>
   let b7 : Bool := (decide (r6.1 < 0) || seq a7 a1)
   bif b7 then
    some (5, ())
   else
    (spec_l14Behind a0 a7).bind fun r8 =>
    let e9 : V1 := rd R1 a0 r6.1
    let b10 : Bool := !seq e9.2.1 (⟨#[]⟩ : ByteArray)
    let b11 : Bool := (decide (r8.1 > 0) || b10)
    let b12 : Bool := decide ((e9.2.2.2.2.length : Int) > 0)
    bif (!(!(decide (r8.1 > 0))) || (decide (0 ≤ r6.1) && decide (r6.1 < (a0.length : Int)))) && (!(!b11) || (decide (0 ≤ r6.1) && decide (r6.1 < (a0.length : Int)))) then
     bif (b11 || b12) then
      some (7, ())
     else
      let b13 : Bool := ((e9.2.2.1.length : Int) != (e2.2.2.1.length : Int))
      bif decide (0 ≤ r6.1) && decide (r6.1 < (a0.length : Int)) then
       bif b13 then
        some (2, ())
       else
        some (0, ())
      else none
    else none
  else
   let b14 : Bool := seq e2.2.1 (⟨#[]⟩ : ByteArray)
   bif b14 then
    some (5, ())
   else
   bif (a6 == 1) then
    some (0, ())
   else
    (spec_l14Behind a0 e2.2.1).bind fun r15 =>
    let b16 : Bool := decide ((e2.2.2.2.2.length : Int) > 0)
    let b17 : Bool := (decide (r15.1 > 1) || b16)
    bif b17 then
     some (7, ())
    else
     (spec_l13Find a0 e2.2.1).bind fun r18 =>
     let e19 : V1 := rd R1 a0 r18.1
     let b20 : Bool := decide ((e19.2.2.1.length : Int) < (e2.2.2.1.length : Int))
     bif decide (0 ≤ r18.1) && decide (r18.1 < (a0.length : Int)) then
      bif b20 then
       some (2, ())
      else
       some (0, ())
     else none
 else none
noncomputable def spec_l14May.ent : Entry := ⟨[false, false, false], [.agg [.val .bor (.slice R1), .val .bor (.str), .val .bor (.int .i64), .val .bor (.int .i64), .val .bor (.str), .val .bor (.str)], .cell (.val .bor (.int .i64)), .cell (.val .bor (.str))], [.cell (.val .bor (.int .i64))], [], fun v => spec_l14May v.1 v.2.1 v.2.2.1 v.2.2.2.1 v.2.2.2.2.1 v.2.2.2.2.2.1 v.2.2.2.2.2.2.1 v.2.2.2.2.2.2.2.1⟩
theorem spec_l14May.eq : ∀ v, evFn spec_l14May.E f14 spec_l14May.ent.ptrs spec_l14May.ent.ins spec_l14May.ent.rets spec_l14May.ent.outs v = spec_l14May.ent.f v := by intro v; kernel_rfl
theorem spec_l14May.fok : ∀ q ∈ [((12 : Nat), spec_l13Find.ent), ((13 : Nat), spec_l14Behind.ent)], EntryOK Pr q.1 q.2 := by
 intro q hq
 simp only [List.mem_cons, List.mem_nil_iff, or_false] at hq
 rcases hq with rfl | rfl
 · exact spec_l13Find.ok
 · exact spec_l14Behind.ok
theorem spec_l14May.ls : loopsOf (bodyOf f14) = [] := by kernel_rfl
theorem spec_l14May.ok : EntryOK Pr 14 spec_l14May.ent :=
 entry_ok (E := spec_l14May.E) (EnvOK.of dok spec_l14May.fok) mixed (fn := f14) (by kernel_rfl) (by kernel_rfl) (by decide) spec_l14May.ls (by intro l hl; simp at hl) spec_l14May.eq
/-! ### loop.example/g00038/spec.l01Max -/
noncomputable def spec_l01Max.E : Env := ⟨D, [], [], []⟩
noncomputable def spec_l01Max (a0 : Int) (a1 : Int) : Option (Int × Unit) :=
 bif decide (a0 > a1) then
  some (a0, ())
 else
  some (a1, ())
noncomputable def spec_l01Max.ent : Entry := ⟨[false, false], [.cell (.val .bor (.int .i64)), .cell (.val .bor (.int .i64))], [.cell (.val .bor (.int .i64))], [], fun v => spec_l01Max v.1 v.2.1⟩
theorem spec_l01Max.eq : ∀ v, evFn spec_l01Max.E f31 spec_l01Max.ent.ptrs spec_l01Max.ent.ins spec_l01Max.ent.rets spec_l01Max.ent.outs v = spec_l01Max.ent.f v := by intro v; kernel_rfl
theorem spec_l01Max.fok : ∀ q ∈ ([] : List (Nat × Entry)), EntryOK Pr q.1 q.2 := by intro q hq; simp at hq
theorem spec_l01Max.ls : loopsOf (bodyOf f31) = [] := by kernel_rfl
theorem spec_l01Max.ok : EntryOK Pr 31 spec_l01Max.ent :=
 entry_ok (E := spec_l01Max.E) (EnvOK.of dok spec_l01Max.fok) mixed (fn := f31) (by kernel_rfl) (by kernel_rfl) (by decide) spec_l01Max.ls (by intro l hl; simp at hl) spec_l01Max.eq
/-! ### loop.example/g00038/spec.HasBit -/
noncomputable def spec_HasBit.E : Env := ⟨D, [], [], []⟩
noncomputable def spec_HasBit (a0 : ByteArray) (a1 : Int) : Option (Bool × Unit) :=
 let b1 : Bool := decide ((a0.size : Int) ≤ 65536)
 let b2 : Bool := decide ((wrap64 (Int.tdiv a1 8)) < (a0.size : Int))
 let b3 : Bool := ((b1 && decide (a1 ≥ 0)) && b2)
 let x4 : Int := bt a0 (wrap64 (Int.tdiv a1 8))
 let x5 : Int := (IntKind.u64.wrap ((Int.tmod a1 8)))
 let x6 : Int := (bits .and .u8 (shr .u8 x4 x5) 1)
 bif (!(b1 && decide (a1 ≥ 0)) || (!((8 : Int) == 0))) && ((!b3 || (!((8 : Int) == 0))) && ((!b3 || (decide (0 ≤ (wrap64 (Int.tdiv a1 8))) && decide ((wrap64 (Int.tdiv a1 8)) < (a0.size : Int)))) && ((!b3 || (!((8 : Int) == 0))) && (!b3 || (decide (0 ≤ x5)))))) then
  some ((b3 && (x6 == 1)), ())
 else none
noncomputable def spec_HasBit.ent : Entry := ⟨[false, false], [.cell (.val .bor (.str)), .cell (.val .bor (.int .i64))], [.cell (.val .bor (.bool))], [], fun v => spec_HasBit v.1 v.2.1⟩
theorem spec_HasBit.eq : ∀ v, evFn spec_HasBit.E f32 spec_HasBit.ent.ptrs spec_HasBit.ent.ins spec_HasBit.ent.rets spec_HasBit.ent.outs v = spec_HasBit.ent.f v := by intro v; kernel_rfl
theorem spec_HasBit.fok : ∀ q ∈ ([] : List (Nat × Entry)), EntryOK Pr q.1 q.2 := by intro q hq; simp at hq
theorem spec_HasBit.ls : loopsOf (bodyOf f32) = [] := by kernel_rfl
theorem spec_HasBit.ok : EntryOK Pr 32 spec_HasBit.ent :=
 entry_ok (E := spec_HasBit.E) (EnvOK.of dok spec_HasBit.fok) mixed (fn := f32) (by kernel_rfl) (by kernel_rfl) (by decide) spec_HasBit.ls (by intro l hl; simp at hl) spec_HasBit.eq
/-! ### loop.example/g00038/spec.NextBit -/
noncomputable def spec_NextBit.E6 : Env := ⟨D, [], [(31, spec_l01Max.ent), (32, spec_HasBit.ent)], []⟩
noncomputable def spec_NextBit_l6_step (rec : ByteArray → Int → Bool → Int → Int → Option ((Int × Unit) ⊕ (Int × Bool × Int × Unit))) (y0 : ByteArray) (y1 : Int) (y2 : Bool) (y3 : Int) (y4 : Int) : Option ((Int × Unit) ⊕ (Int × Bool × Int × Unit)) :=
 bif decide (y4 < y3) then
  (spec_HasBit y0 y4).bind fun r4 =>
  bif (r4.1 == y2) then
   some (Sum.inl (y4, ()))
  else
   rec y0 y1 y2 y3 (wrap64 (y4 + 1))
 else
  some (Sum.inr (y1, y2, y3, ()))
noncomputable def spec_NextBit_l6 : Nat → ByteArray → Int → Bool → Int → Int → Option ((Int × Unit) ⊕ (Int × Bool × Int × Unit))
 | 0 => fun _ _ _ _ _ => none
 | n + 1 => spec_NextBit_l6_step (spec_NextBit_l6 n)
noncomputable def spec_NextBit_l6.ent : LEntry := ⟨(.cell (.val .bor (.str)) :: (.cell (.val .bor (.int .i64)) :: (.cell (.val .bor (.bool)) :: (sk 4 (.cell (.val .bor (.int .i64)) :: (.cell (.val .bor (.int .i64)) :: (sk 24 []))))))), rk 33 [], [], [], [⟨none, sk 6 (.cell (.val .bor (.int .i64)) :: (sk 26 [])), rk 33 [], [], []⟩, ⟨some 0, sk 1 (.cell (.val .bor (.int .i64)) :: (.cell (.val .bor (.bool)) :: (sk 4 (.cell (.val .bor (.int .i64)) :: (sk 25 []))))), rk 33 [], [], []⟩], fun v => spec_NextBit_l6 K0 v.1 v.2.1 v.2.2.1 v.2.2.2.1 v.2.2.2.2.1⟩
theorem spec_NextBit_l6.eq : ∀ rec v, evStep spec_NextBit.E6 (bodyAt 6 f15) spec_NextBit_l6.ent.ins spec_NextBit_l6.ent.rts spec_NextBit_l6.ent.hm spec_NextBit_l6.ent.nl spec_NextBit_l6.ent.xs rec v = spec_NextBit_l6_step (fun c0 c1 c2 c3 c4 => rec (c0, c1, c2, c3, c4, ())) v.1 v.2.1 v.2.2.1 v.2.2.2.1 v.2.2.2.2.1 := by intro rec v; kernel_rfl
noncomputable def spec_NextBit.E : Env := ⟨D, [], [(31, spec_l01Max.ent), (32, spec_HasBit.ent)], [(6, spec_NextBit_l6.ent)]⟩
noncomputable def spec_NextBit (a0 : ByteArray) (a1 : Int) (a2 : Bool) : Option (Int × Unit) :=
 let b1 : Bool := decide ((a0.size : Int) > 65536)
 bif b1 then
  some (0, ())
 else
  (spec_l01Max 0 a1).bind fun r2 =>
  let x3 : Int := (wrap64 ((8 : Int) * (a0.size : Int)))
  (spec_NextBit_l6 K0 a0 r2.1 a2 x3 r2.1).bind fun o5 =>
  match o5 with
  | Sum.inl p6 =>
   some (p6.1, ())
  | Sum.inr p7 =>
   bif p7.2.1 then
    some (-1, ())
   else
    (spec_l01Max p7.1 p7.2.2.1).bind fun r8 =>
    some (r8.1, ())
noncomputable def spec_NextBit.ent : Entry := ⟨[false, false, false], [.cell (.val .bor (.str)), .cell (.val .bor (.int .i64)), .cell (.val .bor (.bool))], [.cell (.val .bor (.int .i64))], [], fun v => spec_NextBit v.1 v.2.1 v.2.2.1⟩
theorem spec_NextBit.eq : ∀ v, evFn spec_NextBit.E f15 spec_NextBit.ent.ptrs spec_NextBit.ent.ins spec_NextBit.ent.rets spec_NextBit.ent.outs v = spec_NextBit.ent.f v := by intro v; kernel_rfl
theorem spec_NextBit.fok : ∀ q ∈ [((31 : Nat), spec_l01Max.ent), ((32 : Nat), spec_HasBit.ent)], EntryOK Pr q.1 q.2 := by
 intro q hq
 simp only [List.mem_cons, List.mem_nil_iff, or_false] at hq
 rcases hq with rfl | rfl
 · exact spec_l01Max.ok
 · exact spec_HasBit.ok
theorem spec_NextBit_l6.it : ∀ n v, iter (evStep spec_NextBit.E6 (bodyAt 6 f15) spec_NextBit_l6.ent.ins spec_NextBit_l6.ent.rts spec_NextBit_l6.ent.hm spec_NextBit_l6.ent.nl spec_NextBit_l6.ent.xs) n v = spec_NextBit_l6 n v.1 v.2.1 v.2.2.1 v.2.2.2.1 v.2.2.2.2.1 := by
 intro n
 induction n with
 | zero => intro v; rfl
 | succ n ih =>
  intro v
  show (evStep spec_NextBit.E6 (bodyAt 6 f15) spec_NextBit_l6.ent.ins spec_NextBit_l6.ent.rts spec_NextBit_l6.ent.hm spec_NextBit_l6.ent.nl spec_NextBit_l6.ent.xs) (iter (evStep spec_NextBit.E6 (bodyAt 6 f15) spec_NextBit_l6.ent.ins spec_NextBit_l6.ent.rts spec_NextBit_l6.ent.hm spec_NextBit_l6.ent.nl spec_NextBit_l6.ent.xs) n) v = _
  rw [spec_NextBit_l6.eq, show (fun c0 c1 c2 c3 c4 => iter (evStep spec_NextBit.E6 (bodyAt 6 f15) spec_NextBit_l6.ent.ins spec_NextBit_l6.ent.rts spec_NextBit_l6.ent.hm spec_NextBit_l6.ent.nl spec_NextBit_l6.ent.xs) n (c0, c1, c2, c3, c4, ())) = spec_NextBit_l6 n from by funext c0 c1 c2 c3 c4; exact ih _]
  rfl
theorem spec_NextBit_l6.fr : firstRegion (bodyAt 6 f15) = 6 := by kernel_rfl
theorem spec_NextBit_l6.ls : loopsOf (bodyAt 6 f15) = [] := by kernel_rfl
theorem spec_NextBit_l6.lok {E : Env} (hpin : spec_NextBit.E6.pin = E.pin) (hfind : find 6 E.loops = some spec_NextBit_l6.ent) : LoopOK Pr E (bodyAt 6 f15) :=
 loop_of (E1 := spec_NextBit.E6) (EnvOK.of dok spec_NextBit.fok) mixed hpin (by rw [spec_NextBit_l6.fr]; exact hfind) spec_NextBit_l6.ls (by intro l hl; simp at hl) (fun v => (spec_NextBit_l6.it K0 v).symm)
theorem spec_NextBit.ls : loopsOf (bodyOf f15) = [bodyAt 6 f15] := by kernel_rfl
theorem spec_NextBit.ok : EntryOK Pr 15 spec_NextBit.ent :=
 entry_ok (E := spec_NextBit.E) (EnvOK.of dok spec_NextBit.fok) mixed (fn := f15) (by kernel_rfl) (by kernel_rfl) (by decide) spec_NextBit.ls (by intro l hl; simp only [List.mem_singleton] at hl; subst hl; exact spec_NextBit_l6.lok rfl rfl) spec_NextBit.eq
/-! ### loop.example/g00038/spec.CountBits -/
noncomputable def spec_CountBits.E3 : Env := ⟨D, [], [(32, spec_HasBit.ent), (33, spec_l01Bool.ent)], []⟩
noncomputable def spec_CountBits_l3_step (rec : ByteArray → Int → Int → Option ((Int × Unit))) (y0 : ByteArray) (y1 : Int) (y2 : Int) : Option ((Int × Unit)) :=
 let x1 : Int := (wrap64 ((8 : Int) * (y0.size : Int)))
 bif decide (y2 < x1) then
  (spec_HasBit y0 y2).bind fun r2 =>
  (spec_l01Bool r2.1).bind fun r3 =>
  rec y0 (wrap64 (y1 + r3.1)) (wrap64 (y2 + 1))
 else
  some (y1, ())
noncomputable def spec_CountBits_l3 : Nat → ByteArray → Int → Int → Option ((Int × Unit))
 | 0 => fun _ _ _ => none
 | n + 1 => spec_CountBits_l3_step (spec_CountBits_l3 n)
noncomputable def spec_CountBits_l3.ent : LEntry := ⟨(.cell (.val .bor (.str)) :: (sk 2 (.cell (.val .bor (.int .i64)) :: (.cell (.val .bor (.int .i64)) :: (sk 14 []))))), rk 19 [], [], [], [⟨some 0, sk 3 (.cell (.val .bor (.int .i64)) :: (sk 15 [])), rk 19 [], [], []⟩], fun v => spec_CountBits_l3 K0 v.1 v.2.1 v.2.2.1⟩
theorem spec_CountBits_l3.eq : ∀ rec v, evStep spec_CountBits.E3 (bodyAt 3 f16) spec_CountBits_l3.ent.ins spec_CountBits_l3.ent.rts spec_CountBits_l3.ent.hm spec_CountBits_l3.ent.nl spec_CountBits_l3.ent.xs rec v = spec_CountBits_l3_step (fun c0 c1 c2 => rec (c0, c1, c2, ())) v.1 v.2.1 v.2.2.1 := by intro rec v; kernel_rfl
noncomputable def spec_CountBits.E : Env := ⟨D, [], [(32, spec_HasBit.ent), (33, spec_l01Bool.ent)], [(3, spec_CountBits_l3.ent)]⟩
noncomputable def spec_CountBits (a0 : ByteArray) : Option (Int × Unit) :=
 (spec_CountBits_l3 K0 a0 0 0).bind fun o4 =>
 some (o4.1, ())
noncomputable def spec_CountBits.ent : Entry := ⟨[false], [.cell (.val .bor (.str))], [.cell (.val .bor (.int .i64))], [], fun v => spec_CountBits v.1⟩
theorem spec_CountBits.eq : ∀ v, evFn spec_CountBits.E f16 spec_CountBits.ent.ptrs spec_CountBits.ent.ins spec_CountBits.ent.rets spec_CountBits.ent.outs v = spec_CountBits.ent.f v := by intro v; kernel_rfl
theorem spec_CountBits.fok : ∀ q ∈ [((32 : Nat), spec_HasBit.ent), ((33 : Nat), spec_l01Bool.ent)], EntryOK Pr q.1 q.2 := by
 intro q hq
 simp only [List.mem_cons, List.mem_nil_iff, or_false] at hq
 rcases hq with rfl | rfl
 · exact spec_HasBit.ok
 · exact spec_l01Bool.ok
theorem spec_CountBits_l3.it : ∀ n v, iter (evStep spec_CountBits.E3 (bodyAt 3 f16) spec_CountBits_l3.ent.ins spec_CountBits_l3.ent.rts spec_CountBits_l3.ent.hm spec_CountBits_l3.ent.nl spec_CountBits_l3.ent.xs) n v = spec_CountBits_l3 n v.1 v.2.1 v.2.2.1 := by
 intro n
 induction n with
 | zero => intro v; rfl
 | succ n ih =>
  intro v
  show (evStep spec_CountBits.E3 (bodyAt 3 f16) spec_CountBits_l3.ent.ins spec_CountBits_l3.ent.rts spec_CountBits_l3.ent.hm spec_CountBits_l3.ent.nl spec_CountBits_l3.ent.xs) (iter (evStep spec_CountBits.E3 (bodyAt 3 f16) spec_CountBits_l3.ent.ins spec_CountBits_l3.ent.rts spec_CountBits_l3.ent.hm spec_CountBits_l3.ent.nl spec_CountBits_l3.ent.xs) n) v = _
  rw [spec_CountBits_l3.eq, show (fun c0 c1 c2 => iter (evStep spec_CountBits.E3 (bodyAt 3 f16) spec_CountBits_l3.ent.ins spec_CountBits_l3.ent.rts spec_CountBits_l3.ent.hm spec_CountBits_l3.ent.nl spec_CountBits_l3.ent.xs) n (c0, c1, c2, ())) = spec_CountBits_l3 n from by funext c0 c1 c2; exact ih _]
  rfl
theorem spec_CountBits_l3.fr : firstRegion (bodyAt 3 f16) = 3 := by kernel_rfl
theorem spec_CountBits_l3.ls : loopsOf (bodyAt 3 f16) = [] := by kernel_rfl
theorem spec_CountBits_l3.lok {E : Env} (hpin : spec_CountBits.E3.pin = E.pin) (hfind : find 3 E.loops = some spec_CountBits_l3.ent) : LoopOK Pr E (bodyAt 3 f16) :=
 loop_of (E1 := spec_CountBits.E3) (EnvOK.of dok spec_CountBits.fok) mixed hpin (by rw [spec_CountBits_l3.fr]; exact hfind) spec_CountBits_l3.ls (by intro l hl; simp at hl) (fun v => (spec_CountBits_l3.it K0 v).symm)
theorem spec_CountBits.ls : loopsOf (bodyOf f16) = [bodyAt 3 f16] := by kernel_rfl
theorem spec_CountBits.ok : EntryOK Pr 16 spec_CountBits.ent :=
 entry_ok (E := spec_CountBits.E) (EnvOK.of dok spec_CountBits.fok) mixed (fn := f16) (by kernel_rfl) (by kernel_rfl) (by decide) spec_CountBits.ls (by intro l hl; simp only [List.mem_singleton] at hl; subst hl; exact spec_CountBits_l3.lok rfl rfl) spec_CountBits.eq
/-! ### loop.example/g00038/spec.JobFault -/
noncomputable def spec_JobFault.E : Env := ⟨D, [], [(11, spec_ChainFault.ent), (12, spec_l13Find.ent), (13, spec_l14Behind.ent), (14, spec_l14May.ent), (15, spec_NextBit.ent), (16, spec_CountBits.ent)], []⟩
noncomputable def spec_JobFault (a0 : List V1) (a1 : ByteArray) (a2 : Int) (a3 : Int) (a4 : ByteArray) (a5 : ByteArray) : Option (Int × Unit) :=
 (spec_ChainFault a0).bind fun r1 =>
 bif (r1.1 != 0) then
  some (1, ())
 else
  (spec_l13Find a0 a1).bind fun r2 =>
  let r3 : Int × Unit := (spec_l14Behind a0 a1).getD (0, ())
  let b4 : Bool := (decide (r2.1 < 0) || decide (r3.1 > 0))
  bif (!(!(decide (r2.1 < 0))) || ((spec_l14Behind a0 a1).isSome)) then
   bif b4 then
    some (1, ())
   else
    let b5 : Bool := ((a2 == 0) && ((a3 == 0) && (seq a4 ByteArray.empty && seq a5 ByteArray.empty)))
    bif b5 then
     some (0, ())
    else
     let r6 : Int × Unit := (spec_l14May a0 a1 a2 a3 a4 a5 a2 a5).getD (0, ())
     let b7 : Bool := ((r6.1 != 0) || decide (a3 < 0))
     let e8 : V1 := rd R1 a0 r2.1
     let b9 : Bool := decide (a3 > (e8.2.2.1.length : Int))
     let b10 : Bool := decide ((a4.size : Int) > 8)
     let r11 : Int × Unit := (spec_NextBit a4 a3 true).getD (0, ())
     let b12 : Bool := (((b7 || b9) || b10) || decide (r11.1 ≥ 0))
     bif ((spec_l14May a0 a1 a2 a3 a4 a5 a2 a5).isSome) && ((!(!b7) || (decide (0 ≤ r2.1) && decide (r2.1 < (a0.length : Int)))) && (!(!((b7 || b9) || b10)) || ((spec_NextBit a4 a3 true).isSome))) then
      bif b12 then
       some (1, ())
      else
       let r13 : Int × Unit := (spec_CountBits a4).getD (0, ())
       let b14 : Bool := ((a2 == 1) && decide (r13.1 > 0))
       bif (!(a2 == 1) || ((spec_CountBits a4).isSome)) then
        bif b14 then
         some (1, ())
        else
         some (0, ())
       else none
     else none
  else none
noncomputable def spec_JobFault.ent : Entry := ⟨[false], [.agg [.val .bor (.slice R1), .val .bor (.str), .val .bor (.int .i64), .val .bor (.int .i64), .val .bor (.str), .val .bor (.str)]], [.cell (.val .bor (.int .i64))], [], fun v => spec_JobFault v.1 v.2.1 v.2.2.1 v.2.2.2.1 v.2.2.2.2.1 v.2.2.2.2.2.1⟩
theorem spec_JobFault.eq : ∀ v, evFn spec_JobFault.E f5 spec_JobFault.ent.ptrs spec_JobFault.ent.ins spec_JobFault.ent.rets spec_JobFault.ent.outs v = spec_JobFault.ent.f v := by intro v; kernel_rfl
theorem spec_JobFault.fok : ∀ q ∈ [((11 : Nat), spec_ChainFault.ent), ((12 : Nat), spec_l13Find.ent), ((13 : Nat), spec_l14Behind.ent), ((14 : Nat), spec_l14May.ent), ((15 : Nat), spec_NextBit.ent), ((16 : Nat), spec_CountBits.ent)], EntryOK Pr q.1 q.2 := by
 intro q hq
 simp only [List.mem_cons, List.mem_nil_iff, or_false] at hq
 rcases hq with rfl | rfl | rfl | rfl | rfl | rfl
 · exact spec_ChainFault.ok
 · exact spec_l13Find.ok
 · exact spec_l14Behind.ok
 · exact spec_l14May.ok
 · exact spec_NextBit.ok
 · exact spec_CountBits.ok
theorem spec_JobFault.ls : loopsOf (bodyOf f5) = [] := by kernel_rfl
theorem spec_JobFault.ok : EntryOK Pr 5 spec_JobFault.ent :=
 entry_ok (E := spec_JobFault.E) (EnvOK.of dok spec_JobFault.fok) mixed (fn := f5) (by kernel_rfl) (by kernel_rfl) (by decide) spec_JobFault.ls (by intro l hl; simp at hl) spec_JobFault.eq
/-! ### loop.example/g00038/impl.yisName -/
noncomputable def impl_yisName.E2 : Env := ⟨D, [], [], []⟩
noncomputable def impl_yisName_l2_step (rec : ByteArray → Int → Int → Option ((Bool × Unit) ⊕ (ByteArray × Unit))) (y0 : ByteArray) (y1 : Int) (y2 : Int) : Option ((Bool × Unit) ⊕ (ByteArray × Unit)) :=
 bif decide (y2 < y1) then
  bif decide (0 ≤ y2) && decide (y2 < (y0.size : Int)) then
   let b1 : Bool := (decide (bt y0 y2 ≥ 97) && decide (bt y0 y2 ≤ 122))
   let b2 : Bool := (decide (bt y0 y2 ≥ 48) && decide (bt y0 y2 ≤ 57))
   let b3 : Bool := ((b1 || b2) || (bt y0 y2 == 45))
   bif !b3 then
    some (Sum.inl (false, ()))
   else
    rec y0 y1 (wrap64 (y2 + 1))
  else none
 else
  some (Sum.inr (y0, ()))
noncomputable def impl_yisName_l2 : Nat → ByteArray → Int → Int → Option ((Bool × Unit) ⊕ (ByteArray × Unit))
 | 0 => fun _ _ _ => none
 | n + 1 => impl_yisName_l2_step (impl_yisName_l2 n)
noncomputable def impl_yisName_l2.ent : LEntry := ⟨(.cell (.val .bor (.str)) :: (sk 5 (.cell (.val .bor (.int .i64)) :: (.cell (.val .bor (.int .i64)) :: (sk 33 []))))), rk 41 [], [], [], [⟨none, sk 2 (.cell (.val .bor (.bool)) :: (sk 38 [])), rk 41 [], [], []⟩, ⟨some 0, (.cell (.val .bor (.str)) :: (sk 40 [])), rk 41 [], [], []⟩], fun v => impl_yisName_l2 K0 v.1 v.2.1 v.2.2.1⟩
theorem impl_yisName_l2.eq : ∀ rec v, evStep impl_yisName.E2 (bodyAt 2 f50) impl_yisName_l2.ent.ins impl_yisName_l2.ent.rts impl_yisName_l2.ent.hm impl_yisName_l2.ent.nl impl_yisName_l2.ent.xs rec v = impl_yisName_l2_step (fun c0 c1 c2 => rec (c0, c1, c2, ())) v.1 v.2.1 v.2.2.1 := by intro rec v; kernel_rfl
noncomputable def impl_yisName.E : Env := ⟨D, [], [], [(2, impl_yisName_l2.ent)]⟩
noncomputable def impl_yisName (a0 : ByteArray) : Option (Bool × Unit) :=
 (impl_yisName_l2 K0 a0 (a0.size : Int) 0).bind fun o4 =>
 match o4 with
 | Sum.inl p5 =>
  some (p5.1, ())
 | Sum.inr p6 =>
  let b7 : Bool := decide ((p6.1.size : Int) ≥ 1)
  let b8 : Bool := decide ((p6.1.size : Int) ≤ 20)
  some ((b7 && b8), ())
noncomputable def impl_yisName.ent : Entry := ⟨[false], [.cell (.val .bor (.str))], [.cell (.val .bor (.bool))], [], fun v => impl_yisName v.1⟩
theorem impl_yisName.eq : ∀ v, evFn impl_yisName.E f50 impl_yisName.ent.ptrs impl_yisName.ent.ins impl_yisName.ent.rets impl_yisName.ent.outs v = impl_yisName.ent.f v := by intro v; kernel_rfl
theorem impl_yisName.fok : ∀ q ∈ ([] : List (Nat × Entry)), EntryOK Pr q.1 q.2 := by intro q hq; simp at hq
theorem impl_yisName_l2.it : ∀ n v, iter (evStep impl_yisName.E2 (bodyAt 2 f50) impl_yisName_l2.ent.ins impl_yisName_l2.ent.rts impl_yisName_l2.ent.hm impl_yisName_l2.ent.nl impl_yisName_l2.ent.xs) n v = impl_yisName_l2 n v.1 v.2.1 v.2.2.1 := by
 intro n
 induction n with
 | zero => intro v; rfl
 | succ n ih =>
  intro v
  show (evStep impl_yisName.E2 (bodyAt 2 f50) impl_yisName_l2.ent.ins impl_yisName_l2.ent.rts impl_yisName_l2.ent.hm impl_yisName_l2.ent.nl impl_yisName_l2.ent.xs) (iter (evStep impl_yisName.E2 (bodyAt 2 f50) impl_yisName_l2.ent.ins impl_yisName_l2.ent.rts impl_yisName_l2.ent.hm impl_yisName_l2.ent.nl impl_yisName_l2.ent.xs) n) v = _
  rw [impl_yisName_l2.eq, show (fun c0 c1 c2 => iter (evStep impl_yisName.E2 (bodyAt 2 f50) impl_yisName_l2.ent.ins impl_yisName_l2.ent.rts impl_yisName_l2.ent.hm impl_yisName_l2.ent.nl impl_yisName_l2.ent.xs) n (c0, c1, c2, ())) = impl_yisName_l2 n from by funext c0 c1 c2; exact ih _]
  rfl
theorem impl_yisName_l2.fr : firstRegion (bodyAt 2 f50) = 2 := by kernel_rfl
theorem impl_yisName_l2.ls : loopsOf (bodyAt 2 f50) = [] := by kernel_rfl
theorem impl_yisName_l2.lok {E : Env} (hpin : impl_yisName.E2.pin = E.pin) (hfind : find 2 E.loops = some impl_yisName_l2.ent) : LoopOK Pr E (bodyAt 2 f50) :=
 loop_of (E1 := impl_yisName.E2) (EnvOK.of dok impl_yisName.fok) mixed hpin (by rw [impl_yisName_l2.fr]; exact hfind) impl_yisName_l2.ls (by intro l hl; simp at hl) (fun v => (impl_yisName_l2.it K0 v).symm)
theorem impl_yisName.ls : loopsOf (bodyOf f50) = [bodyAt 2 f50] := by kernel_rfl
theorem impl_yisName.ok : EntryOK Pr 50 impl_yisName.ent :=
 entry_ok (E := impl_yisName.E) (EnvOK.of dok impl_yisName.fok) mixed (fn := f50) (by kernel_rfl) (by kernel_rfl) (by decide) impl_yisName.ls (by intro l hl; simp only [List.mem_singleton] at hl; subst hl; exact impl_yisName_l2.lok rfl rfl) impl_yisName.eq
/-! ### loop.example/g00038/impl.yin -/
noncomputable def impl_yin.E : Env := ⟨D, [], [], []⟩
noncomputable def impl_yin (a0 : Int) (a1 : Int) (a2 : Int) : Option (Bool × Unit) :=
 let b1 : Bool := (decide (a0 ≥ a1) && decide (a0 ≤ a2))
 some (b1, ())
noncomputable def impl_yin.ent : Entry := ⟨[false, false, false], [.cell (.val .bor (.int .i64)), .cell (.val .bor (.int .i64)), .cell (.val .bor (.int .i64))], [.cell (.val .bor (.bool))], [], fun v => impl_yin v.1 v.2.1 v.2.2.1⟩
theorem impl_yin.eq : ∀ v, evFn impl_yin.E f23 impl_yin.ent.ptrs impl_yin.ent.ins impl_yin.ent.rets impl_yin.ent.outs v = impl_yin.ent.f v := by intro v; kernel_rfl
theorem impl_yin.fok : ∀ q ∈ ([] : List (Nat × Entry)), EntryOK Pr q.1 q.2 := by intro q hq; simp at hq
theorem impl_yin.ls : loopsOf (bodyOf f23) = [] := by kernel_rfl
theorem impl_yin.ok : EntryOK Pr 23 impl_yin.ent :=
 entry_ok (E := impl_yin.E) (EnvOK.of dok impl_yin.fok) mixed (fn := f23) (by kernel_rfl) (by kernel_rfl) (by decide) impl_yin.ls (by intro l hl; simp at hl) impl_yin.eq
/-! ### loop.example/g00038/impl.ImageFault$1 -/
noncomputable def impl_ImageFault_1_v10.E2 : Env := ⟨D, [2], [(23, impl_yin.ent)], []⟩
noncomputable def impl_ImageFault_1_v10_l2_step (rec : List Int → ByteArray → ByteArray → List Int → List ByteArray → List V2 → List Int → Int → Int → List Bool → Option ((Bool × List Bool × Unit) ⊕ (List Int × ByteArray × ByteArray × List Int × List ByteArray × List V2 × List Bool × Unit))) (y0 : List Int) (y1 : ByteArray) (y2 : ByteArray) (y3 : List Int) (y4 : List ByteArray) (y5 : List V2) (y6 : List Int) (y7 : Int) (y8 : Int) (y9 : List Bool) : Option ((Bool × List Bool × Unit) ⊕ (List Int × ByteArray × ByteArray × List Int × List ByteArray × List V2 × List Bool × Unit)) :=
 bif decide (y8 < y7) then
  bif decide (0 ≤ y8) && decide (y8 < (y6.length : Int)) then
   let x1 : Int := (wrap64 ((y4.length : Int) - 1))
   (impl_yin (rd (.int .i64) y6 y8) (-2) x1).bind fun r2 =>
   bif !r2.1 then
    some (Sum.inl (false, y9, ()))
   else
    let b3 : Bool := decide ((rd (.int .i64) y6 y8) ≥ 0)
    let l4 : List Bool := y9.set ((rd (.int .i64) y6 y8).toNat) true
    bif (!b3 || (decide (0 ≤ (rd (.int .i64) y6 y8)) && decide ((rd (.int .i64) y6 y8) < (y9.length : Int)))) then
     let x10 : Int := (wrap64 ((bif b3 then y8 else y8) + 1))
     rec (bif b3 then y0 else y0) (bif b3 then y1 else y1) (bif b3 then y2 else y2) (bif b3 then y3 else y3) (bif b3 then y4 else y4) (bif b3 then y5 else y5) (bif b3 then y6 else y6) (bif b3 then y7 else y7) x10 (bif b3 then l4 else y9)
    else none
  else none
 else
  some (Sum.inr (y0, y1, y2, y3, y4, y5, y9, ()))
noncomputable def impl_ImageFault_1_v10_l2 : Nat → List Int → ByteArray → ByteArray → List Int → List ByteArray → List V2 → List Int → Int → Int → List Bool → Option ((Bool × List Bool × Unit) ⊕ (List Int × ByteArray × ByteArray × List Int × List ByteArray × List V2 × List Bool × Unit))
 | 0 => fun _ _ _ _ _ _ _ _ _ _ => none
 | n + 1 => impl_ImageFault_1_v10_l2_step (impl_ImageFault_1_v10_l2 n)
noncomputable def impl_ImageFault_1_v10_l2.ent : LEntry := ⟨(.cell (.val .bor (.slice (.int .i64))) :: (.rop [.val .bor (.str), .val .bor (.str), .val .bor (.slice (.int .i64)), .val .bor (.slice (.str)), .val .bor (.slice R2)] :: (.cell (.fix (.ptr 2 0)) :: (sk 4 (.cell (.val .bor (.slice (.int .i64))) :: (.cell (.val .bor (.int .i64)) :: (.cell (.val .bor (.int .i64)) :: (sk 22 [])))))))), rk 2 ([.val .own (.slice (.bool))] :: (rk 29 [])), [], [], [⟨none, sk 2 (.cell (.fix (.ptr 2 0)) :: (sk 1 (.cell (.val .bor (.bool)) :: (sk 27 [])))), rk 2 ([.val .own (.slice (.bool))] :: (rk 29 [])), [], []⟩, ⟨some 0, (.cell (.val .bor (.slice (.int .i64))) :: (.rop [.val .bor (.str), .val .bor (.str), .val .bor (.slice (.int .i64)), .val .bor (.slice (.str)), .val .bor (.slice R2)] :: (.cell (.fix (.ptr 2 0)) :: (sk 29 [])))), rk 2 ([.val .own (.slice (.bool))] :: (rk 29 [])), [], []⟩], fun v => impl_ImageFault_1_v10_l2 K0 v.1 v.2.1 v.2.2.1 v.2.2.2.1 v.2.2.2.2.1 v.2.2.2.2.2.1 v.2.2.2.2.2.2.1 v.2.2.2.2.2.2.2.1 v.2.2.2.2.2.2.2.2.1 v.2.2.2.2.2.2.2.2.2.1⟩
theorem impl_ImageFault_1_v10_l2.eq : ∀ rec v, evStep impl_ImageFault_1_v10.E2 (bodyAt 2 f51) impl_ImageFault_1_v10_l2.ent.ins impl_ImageFault_1_v10_l2.ent.rts impl_ImageFault_1_v10_l2.ent.hm impl_ImageFault_1_v10_l2.ent.nl impl_ImageFault_1_v10_l2.ent.xs rec v = impl_ImageFault_1_v10_l2_step (fun c0 c1 c2 c3 c4 c5 c6 c7 c8 c9 => rec (c0, c1, c2, c3, c4, c5, c6, c7, c8, c9, ())) v.1 v.2.1 v.2.2.1 v.2.2.2.1 v.2.2.2.2.1 v.2.2.2.2.2.1 v.2.2.2.2.2.2.1 v.2.2.2.2.2.2.2.1 v.2.2.2.2.2.2.2.2.1 v.2.2.2.2.2.2.2.2.2.1 := by intro rec v; kernel_rfl
noncomputable def impl_ImageFault_1_v10.E : Env := ⟨D, [2], [(23, impl_yin.ent)], [(2, impl_ImageFault_1_v10_l2.ent)]⟩
noncomputable def impl_ImageFault_1_v10 (a0 : List Int) (a1 : ByteArray) (a2 : ByteArray) (a3 : List Int) (a4 : List ByteArray) (a5 : List V2) (a6 : List Bool) : Option (Bool × List Bool × Unit) :=
 (impl_ImageFault_1_v10_l2 K0 a0 a1 a2 a3 a4 a5 a0 (a0.length : Int) 0 a6).bind fun o11 =>
 match o11 with
 | Sum.inl p12 =>
  some (p12.1, p12.2.1, ())
 | Sum.inr p13 =>
  let b14 : Bool := ((p13.1.length : Int) == (p13.2.2.2.1.length : Int))
  some (b14, p13.2.2.2.2.2.2.1, ())
noncomputable def impl_ImageFault_1_v10.ent : Entry := ⟨[false, false, true], [.cell (.val .bor (.slice (.int .i64))), .rop [.val .bor (.str), .val .bor (.str), .val .bor (.slice (.int .i64)), .val .bor (.slice (.str)), .val .bor (.slice R2)], .agg [.val .own (.slice (.bool))]], [.cell (.val .bor (.bool))], [.agg [.val .own (.slice (.bool))]], fun v => impl_ImageFault_1_v10 v.1 v.2.1 v.2.2.1 v.2.2.2.1 v.2.2.2.2.1 v.2.2.2.2.2.1 v.2.2.2.2.2.2.1⟩
theorem impl_ImageFault_1_v10.eq : ∀ v, evFn impl_ImageFault_1_v10.E f51 impl_ImageFault_1_v10.ent.ptrs impl_ImageFault_1_v10.ent.ins impl_ImageFault_1_v10.ent.rets impl_ImageFault_1_v10.ent.outs v = impl_ImageFault_1_v10.ent.f v := by intro v; kernel_rfl
theorem impl_ImageFault_1_v10.fok : ∀ q ∈ [((23 : Nat), impl_yin.ent)], EntryOK Pr q.1 q.2 := by
 intro q hq
 simp only [List.mem_cons, List.mem_nil_iff, or_false] at hq
 rcases hq with rfl
 · exact impl_yin.ok
theorem impl_ImageFault_1_v10_l2.it : ∀ n v, iter (evStep impl_ImageFault_1_v10.E2 (bodyAt 2 f51) impl_ImageFault_1_v10_l2.ent.ins impl_ImageFault_1_v10_l2.ent.rts impl_ImageFault_1_v10_l2.ent.hm impl_ImageFault_1_v10_l2.ent.nl impl_ImageFault_1_v10_l2.ent.xs) n v = impl_ImageFault_1_v10_l2 n v.1 v.2.1 v.2.2.1 v.2.2.2.1 v.2.2.2.2.1 v.2.2.2.2.2.1 v.2.2.2.2.2.2.1 v.2.2.2.2.2.2.2.1 v.2.2.2.2.2.2.2.2.1 v.2.2.2.2.2.2.2.2.2.1 := by
 intro n
 induction n with
 | zero => intro v; rfl
 | succ n ih =>
  intro v
  show (evStep impl_ImageFault_1_v10.E2 (bodyAt 2 f51) impl_ImageFault_1_v10_l2.ent.ins impl_ImageFault_1_v10_l2.ent.rts impl_ImageFault_1_v10_l2.ent.hm impl_ImageFault_1_v10_l2.ent.nl impl_ImageFault_1_v10_l2.ent.xs) (iter (evStep impl_ImageFault_1_v10.E2 (bodyAt 2 f51) impl_ImageFault_1_v10_l2.ent.ins impl_ImageFault_1_v10_l2.ent.rts impl_ImageFault_1_v10_l2.ent.hm impl_ImageFault_1_v10_l2.ent.nl impl_ImageFault_1_v10_l2.ent.xs) n) v = _
  rw [impl_ImageFault_1_v10_l2.eq, show (fun c0 c1 c2 c3 c4 c5 c6 c7 c8 c9 => iter (evStep impl_ImageFault_1_v10.E2 (bodyAt 2 f51) impl_ImageFault_1_v10_l2.ent.ins impl_ImageFault_1_v10_l2.ent.rts impl_ImageFault_1_v10_l2.ent.hm impl_ImageFault_1_v10_l2.ent.nl impl_ImageFault_1_v10_l2.ent.xs) n (c0, c1, c2, c3, c4, c5, c6, c7, c8, c9, ())) = impl_ImageFault_1_v10_l2 n from by funext c0 c1 c2 c3 c4 c5 c6 c7 c8 c9; exact ih _]
  rfl
theorem impl_ImageFault_1_v10_l2.fr : firstRegion (bodyAt 2 f51) = 2 := by kernel_rfl
theorem impl_ImageFault_1_v10_l2.ls : loopsOf (bodyAt 2 f51) = [] := by kernel_rfl
theorem impl_ImageFault_1_v10_l2.lok {E : Env} (hpin : impl_ImageFault_1_v10.E2.pin = E.pin) (hfind : find 2 E.loops = some impl_ImageFault_1_v10_l2.ent) : LoopOK Pr E (bodyAt 2 f51) :=
 loop_of (E1 := impl_ImageFault_1_v10.E2) (EnvOK.of dok impl_ImageFault_1_v10.fok) mixed hpin (by rw [impl_ImageFault_1_v10_l2.fr]; exact hfind) impl_ImageFault_1_v10_l2.ls (by intro l hl; simp at hl) (fun v => (impl_ImageFault_1_v10_l2.it K0 v).symm)
theorem impl_ImageFault_1_v10.ls : loopsOf (bodyOf f51) = [bodyAt 2 f51] := by kernel_rfl
theorem impl_ImageFault_1_v10.ok : EntryOK Pr 51 impl_ImageFault_1_v10.ent :=
 entry_ok (E := impl_ImageFault_1_v10.E) (EnvOK.of dok impl_ImageFault_1_v10.fok) mixed (fn := f51) (by kernel_rfl) (by kernel_rfl) (by decide) impl_ImageFault_1_v10.ls (by intro l hl; simp only [List.mem_singleton] at hl; subst hl; exact impl_ImageFault_1_v10_l2.lok rfl rfl) impl_ImageFault_1_v10.eq
/-! ### loop.example/g00038/impl.ImageFault$2 -/
noncomputable def impl_ImageFault_2.E : Env := ⟨D, [], [], []⟩
noncomputable def impl_ImageFault_2 (a0 : ByteArray) (a1 : List Int) (a2 : ByteArray) (a3 : List Int) : Option (Bool × Unit) :=
 some (seq a0 a2, ())
noncomputable def impl_ImageFault_2.ent : Entry := ⟨[false, false], [.agg [.val .bor (.str), .val .bor (.slice (.int .i64))], .rop [.val .bor (.str), .val .bor (.slice (.int .i64))]], [.cell (.val .bor (.bool))], [], fun v => impl_ImageFault_2 v.1 v.2.1 v.2.2.1 v.2.2.2.1⟩
theorem impl_ImageFault_2.eq : ∀ v, evFn impl_ImageFault_2.E f53 impl_ImageFault_2.ent.ptrs impl_ImageFault_2.ent.ins impl_ImageFault_2.ent.rets impl_ImageFault_2.ent.outs v = impl_ImageFault_2.ent.f v := by intro v; kernel_rfl
theorem impl_ImageFault_2.fok : ∀ q ∈ ([] : List (Nat × Entry)), EntryOK Pr q.1 q.2 := by intro q hq; simp at hq
theorem impl_ImageFault_2.ls : loopsOf (bodyOf f53) = [] := by kernel_rfl
theorem impl_ImageFault_2.ok : EntryOK Pr 53 impl_ImageFault_2.ent :=
 entry_ok (E := impl_ImageFault_2.E) (EnvOK.of dok impl_ImageFault_2.fok) mixed (fn := f53) (by kernel_rfl) (by kernel_rfl) (by decide) impl_ImageFault_2.ls (by intro l hl; simp at hl) impl_ImageFault_2.eq
/-! ### slices.IndexFunc[[]loop.example/g00038/impl.Snap,loop.example/g00038/impl.Snap] -/
noncomputable def slices_IndexFunc_Snap.E2 : Env := ⟨D, [], [(53, impl_ImageFault_2.ent)], []⟩
noncomputable def slices_IndexFunc_Snap_l2_step (rec : List V2 → ByteArray → List Int → Int → Int → Option ((Int × Unit) ⊕ (Unit))) (y0 : List V2) (y1 : ByteArray) (y2 : List Int) (y3 : Int) (y4 : Int) : Option ((Int × Unit) ⊕ (Unit)) :=
 bif decide (y4 < y3) then
  let e1 : V2 := rd R2 y0 y4
  (impl_ImageFault_2 e1.1 e1.2 y1 y2).bind fun r2 =>
  bif decide (0 ≤ y4) && decide (y4 < (y0.length : Int)) then
   bif r2.1 then
    some (Sum.inl (y4, ()))
   else
    rec y0 y1 y2 y3 (wrap64 (y4 + 1))
  else none
 else
  some (Sum.inr ())
noncomputable def slices_IndexFunc_Snap_l2 : Nat → List V2 → ByteArray → List Int → Int → Int → Option ((Int × Unit) ⊕ (Unit))
 | 0 => fun _ _ _ _ _ => none
 | n + 1 => slices_IndexFunc_Snap_l2_step (slices_IndexFunc_Snap_l2 n)
noncomputable def slices_IndexFunc_Snap_l2.ent : LEntry := ⟨(.cell (.val .bor (.slice R2)) :: (.clo 53 [[.val .bor (.str), .val .bor (.slice (.int .i64))]] :: (sk 5 (.cell (.val .bor (.int .i64)) :: (.cell (.val .bor (.int .i64)) :: (sk 10 [])))))), rk 19 [], [], [], [⟨none, sk 4 (.cell (.val .bor (.int .i64)) :: (sk 14 [])), rk 19 [], [], []⟩, ⟨some 0, sk 19 [], rk 19 [], [], []⟩], fun v => slices_IndexFunc_Snap_l2 K0 v.1 v.2.1 v.2.2.1 v.2.2.2.1 v.2.2.2.2.1⟩
theorem slices_IndexFunc_Snap_l2.eq : ∀ rec v, evStep slices_IndexFunc_Snap.E2 (bodyAt 2 f59) slices_IndexFunc_Snap_l2.ent.ins slices_IndexFunc_Snap_l2.ent.rts slices_IndexFunc_Snap_l2.ent.hm slices_IndexFunc_Snap_l2.ent.nl slices_IndexFunc_Snap_l2.ent.xs rec v = slices_IndexFunc_Snap_l2_step (fun c0 c1 c2 c3 c4 => rec (c0, c1, c2, c3, c4, ())) v.1 v.2.1 v.2.2.1 v.2.2.2.1 v.2.2.2.2.1 := by intro rec v; kernel_rfl
noncomputable def slices_IndexFunc_Snap.E : Env := ⟨D, [], [(53, impl_ImageFault_2.ent)], [(2, slices_IndexFunc_Snap_l2.ent)]⟩
noncomputable def slices_IndexFunc_Snap (a0 : List V2) (a1 : ByteArray) (a2 : List Int) : Option (Int × Unit) :=
 (slices_IndexFunc_Snap_l2 K0 a0 a1 a2 (a0.length : Int) 0).bind fun o3 =>
 match o3 with
 | Sum.inl p4 =>
  some (p4.1, ())
 | Sum.inr p5 =>
  some (-1, ())
noncomputable def slices_IndexFunc_Snap.ent : Entry := ⟨[false, false], [.cell (.val .bor (.slice R2)), .clo 53 [[.val .bor (.str), .val .bor (.slice (.int .i64))]]], [.cell (.val .bor (.int .i64))], [], fun v => slices_IndexFunc_Snap v.1 v.2.1 v.2.2.1⟩
theorem slices_IndexFunc_Snap.eq : ∀ v, evFn slices_IndexFunc_Snap.E f59 slices_IndexFunc_Snap.ent.ptrs slices_IndexFunc_Snap.ent.ins slices_IndexFunc_Snap.ent.rets slices_IndexFunc_Snap.ent.outs v = slices_IndexFunc_Snap.ent.f v := by intro v; kernel_rfl
theorem slices_IndexFunc_Snap.fok : ∀ q ∈ [((53 : Nat), impl_ImageFault_2.ent)], EntryOK Pr q.1 q.2 := by
 intro q hq
 simp only [List.mem_cons, List.mem_nil_iff, or_false] at hq
 rcases hq with rfl
 · exact impl_ImageFault_2.ok
theorem slices_IndexFunc_Snap_l2.it : ∀ n v, iter (evStep slices_IndexFunc_Snap.E2 (bodyAt 2 f59) slices_IndexFunc_Snap_l2.ent.ins slices_IndexFunc_Snap_l2.ent.rts slices_IndexFunc_Snap_l2.ent.hm slices_IndexFunc_Snap_l2.ent.nl slices_IndexFunc_Snap_l2.ent.xs) n v = slices_IndexFunc_Snap_l2 n v.1 v.2.1 v.2.2.1 v.2.2.2.1 v.2.2.2.2.1 := by
 intro n
 induction n with
 | zero => intro v; rfl
 | succ n ih =>
  intro v
  show (evStep slices_IndexFunc_Snap.E2 (bodyAt 2 f59) slices_IndexFunc_Snap_l2.ent.ins slices_IndexFunc_Snap_l2.ent.rts slices_IndexFunc_Snap_l2.ent.hm slices_IndexFunc_Snap_l2.ent.nl slices_IndexFunc_Snap_l2.ent.xs) (iter (evStep slices_IndexFunc_Snap.E2 (bodyAt 2 f59) slices_IndexFunc_Snap_l2.ent.ins slices_IndexFunc_Snap_l2.ent.rts slices_IndexFunc_Snap_l2.ent.hm slices_IndexFunc_Snap_l2.ent.nl slices_IndexFunc_Snap_l2.ent.xs) n) v = _
  rw [slices_IndexFunc_Snap_l2.eq, show (fun c0 c1 c2 c3 c4 => iter (evStep slices_IndexFunc_Snap.E2 (bodyAt 2 f59) slices_IndexFunc_Snap_l2.ent.ins slices_IndexFunc_Snap_l2.ent.rts slices_IndexFunc_Snap_l2.ent.hm slices_IndexFunc_Snap_l2.ent.nl slices_IndexFunc_Snap_l2.ent.xs) n (c0, c1, c2, c3, c4, ())) = slices_IndexFunc_Snap_l2 n from by funext c0 c1 c2 c3 c4; exact ih _]
  rfl
theorem slices_IndexFunc_Snap_l2.fr : firstRegion (bodyAt 2 f59) = 2 := by kernel_rfl
theorem slices_IndexFunc_Snap_l2.ls : loopsOf (bodyAt 2 f59) = [] := by kernel_rfl
theorem slices_IndexFunc_Snap_l2.lok {E : Env} (hpin : slices_IndexFunc_Snap.E2.pin = E.pin) (hfind : find 2 E.loops = some slices_IndexFunc_Snap_l2.ent) : LoopOK Pr E (bodyAt 2 f59) :=
 loop_of (E1 := slices_IndexFunc_Snap.E2) (EnvOK.of dok slices_IndexFunc_Snap.fok) mixed hpin (by rw [slices_IndexFunc_Snap_l2.fr]; exact hfind) slices_IndexFunc_Snap_l2.ls (by intro l hl; simp at hl) (fun v => (slices_IndexFunc_Snap_l2.it K0 v).symm)
theorem slices_IndexFunc_Snap.ls : loopsOf (bodyOf f59) = [bodyAt 2 f59] := by kernel_rfl
theorem slices_IndexFunc_Snap.ok : EntryOK Pr 59 slices_IndexFunc_Snap.ent :=
 entry_ok (E := slices_IndexFunc_Snap.E) (EnvOK.of dok slices_IndexFunc_Snap.fok) mixed (fn := f59) (by kernel_rfl) (by kernel_rfl) (by decide) slices_IndexFunc_Snap.ls (by intro l hl; simp only [List.mem_singleton] at hl; subst hl; exact slices_IndexFunc_Snap_l2.lok rfl rfl) slices_IndexFunc_Snap.eq
/-! ### slices.ContainsFunc[[]loop.example/g00038/impl.Snap,loop.example/g00038/impl.Snap] -/
noncomputable def slices_ContainsFunc_Snap.E : Env := ⟨D, [], [(59, slices_IndexFunc_Snap.ent)], []⟩
noncomputable def slices_ContainsFunc_Snap (a0 : List V2) (a1 : ByteArray) (a2 : List Int) : Option (Bool × Unit) :=
 (slices_IndexFunc_Snap a0 a1 a2).bind fun r1 =>
 some (decide (r1.1 ≥ 0), ())
noncomputable def slices_ContainsFunc_Snap.ent : Entry := ⟨[false, false], [.cell (.val .bor (.slice R2)), .clo 53 [[.val .bor (.str), .val .bor (.slice (.int .i64))]]], [.cell (.val .bor (.bool))], [], fun v => slices_ContainsFunc_Snap v.1 v.2.1 v.2.2.1⟩
theorem slices_ContainsFunc_Snap.eq : ∀ v, evFn slices_ContainsFunc_Snap.E f52 slices_ContainsFunc_Snap.ent.ptrs slices_ContainsFunc_Snap.ent.ins slices_ContainsFunc_Snap.ent.rets slices_ContainsFunc_Snap.ent.outs v = slices_ContainsFunc_Snap.ent.f v := by intro v; kernel_rfl
theorem slices_ContainsFunc_Snap.fok : ∀ q ∈ [((59 : Nat), slices_IndexFunc_Snap.ent)], EntryOK Pr q.1 q.2 := by
 intro q hq
 simp only [List.mem_cons, List.mem_nil_iff, or_false] at hq
 rcases hq with rfl
 · exact slices_IndexFunc_Snap.ok
theorem slices_ContainsFunc_Snap.ls : loopsOf (bodyOf f52) = [] := by kernel_rfl
theorem slices_ContainsFunc_Snap.ok : EntryOK Pr 52 slices_ContainsFunc_Snap.ent :=
 entry_ok (E := slices_ContainsFunc_Snap.E) (EnvOK.of dok slices_ContainsFunc_Snap.fok) mixed (fn := f52) (by kernel_rfl) (by kernel_rfl) (by decide) slices_ContainsFunc_Snap.ls (by intro l hl; simp at hl) slices_ContainsFunc_Snap.eq
/-! ### loop.example/g00038/impl.ImageFault -/
noncomputable def impl_ImageFault.E8 : Env := ⟨D, [], [(50, impl_yisName.ent), (23, impl_yin.ent), (51, impl_ImageFault_1_v10.ent), (52, slices_ContainsFunc_Snap.ent)], []⟩
noncomputable def impl_ImageFault_l8_step (rec : List V2 → Int → Int → ByteArray → ByteArray → List Int → List ByteArray → List V2 → List Bool → Option ((Int × Unit) ⊕ (ByteArray × ByteArray × List Int × List ByteArray × List V2 × List Bool × Unit))) (y0 : List V2) (y1 : Int) (y2 : Int) (y3 : ByteArray) (y4 : ByteArray) (y5 : List Int) (y6 : List ByteArray) (y7 : List V2) (y8 : List Bool) : Option ((Int × Unit) ⊕ (ByteArray × ByteArray × List Int × List ByteArray × List V2 × List Bool × Unit)) :=
 bif decide (y2 < y1) then
  let e10 : V2 := rd R2 y0 y2
  bif decide (0 ≤ y2) && decide (y2 < (y0.length : Int)) then
   let r11 : Bool × Unit := (impl_yisName e10.1).getD (false, ())
   let r12 : Bool × List Bool × Unit := (impl_ImageFault_1_v10 e10.2 y3 y4 y5 y6 y7 y8).getD (false, [], ())
   let s13 : ByteArray := (bif !(!r11.1) then y3 else y3)
   let s14 : ByteArray := (bif !(!r11.1) then y4 else y4)
   let l15 : List Int := (bif !(!r11.1) then y5 else y5)
   let l16 : List ByteArray := (bif !(!r11.1) then y6 else y6)
   let l17 : List V2 := (bif !(!r11.1) then y7 else y7)
   let l18 : List Bool := (bif !(!r11.1) then r12.2.1 else y8)
   let r19 : Bool × Unit := (slices_ContainsFunc_Snap (l17.take y2.toNat) e10.1 e10.2).getD (false, ())
   let b20 : Bool := ((!r11.1 || !r12.1) || r19.1)
   bif ((impl_yisName e10.1).isSome) && ((!(!(!r11.1)) || ((impl_ImageFault_1_v10 e10.2 y3 y4 y5 y6 y7 y8).isSome)) && ((!(!(!r11.1 || !r12.1)) || (decide (0 ≤ y2) && decide (y2 ≤ (l17.length : Int)))) && (!(!(!r11.1 || !r12.1)) || ((slices_ContainsFunc_Snap (l17.take y2.toNat) e10.1 e10.2).isSome)))) then
    bif b20 then
     some (Sum.inl (1, ()))
    else
     rec y0 y1 (wrap64 (y2 + 1)) s13 s14 l15 l16 l17 l18
   else none
  else none
 else
  some (Sum.inr (y3, y4, y5, y6, y7, y8, ()))
noncomputable def impl_ImageFault_l8 : Nat → List V2 → Int → Int → ByteArray → ByteArray → List Int → List ByteArray → List V2 → List Bool → Option ((Int × Unit) ⊕ (ByteArray × ByteArray × List Int × List ByteArray × List V2 × List Bool × Unit))
 | 0 => fun _ _ _ _ _ _ _ _ _ => none
 | n + 1 => impl_ImageFault_l8_step (impl_ImageFault_l8 n)
noncomputable def impl_ImageFault_l8.ent : LEntry := ⟨sk 1 (.cell (.fix (.ptr 1 0)) :: (sk 1 (.cell (.fix (.ptr 3 0)) :: (.cell (.fix (.clo 51 [.ptr 1 0, .ptr 3 0])) :: (sk 49 (.cell (.val .bor (.slice R2)) :: (.cell (.val .bor (.int .i64)) :: (.cell (.val .bor (.int .i64)) :: (sk 43 []))))))))), rk 1 ([.val .bor (.str), .val .bor (.str), .val .bor (.slice (.int .i64)), .val .bor (.slice (.str)), .val .bor (.slice R2)] :: (rk 1 ([.val .own (.slice (.bool))] :: (rk 96 [])))), [], [], [⟨none, sk 2 (.cell (.val .bor (.int .i64)) :: (sk 97 [])), rk 100 [], [], []⟩, ⟨some 0, sk 1 (.cell (.fix (.ptr 1 0)) :: (sk 1 (.cell (.fix (.ptr 3 0)) :: (sk 96 [])))), rk 1 ([.val .bor (.str), .val .bor (.str), .val .bor (.slice (.int .i64)), .val .bor (.slice (.str)), .val .bor (.slice R2)] :: (rk 1 ([.val .own (.slice (.bool))] :: (rk 96 [])))), [], []⟩], fun v => impl_ImageFault_l8 K0 v.1 v.2.1 v.2.2.1 v.2.2.2.1 v.2.2.2.2.1 v.2.2.2.2.2.1 v.2.2.2.2.2.2.1 v.2.2.2.2.2.2.2.1 v.2.2.2.2.2.2.2.2.1⟩
theorem impl_ImageFault_l8.eq : ∀ rec v, evStep impl_ImageFault.E8 (bodyAt 8 f35) impl_ImageFault_l8.ent.ins impl_ImageFault_l8.ent.rts impl_ImageFault_l8.ent.hm impl_ImageFault_l8.ent.nl impl_ImageFault_l8.ent.xs rec v = impl_ImageFault_l8_step (fun c0 c1 c2 c3 c4 c5 c6 c7 c8 => rec (c0, c1, c2, c3, c4, c5, c6, c7, c8, ())) v.1 v.2.1 v.2.2.1 v.2.2.2.1 v.2.2.2.2.1 v.2.2.2.2.2.1 v.2.2.2.2.2.2.1 v.2.2.2.2.2.2.2.1 v.2.2.2.2.2.2.2.2.1 := by intro rec v; kernel_rfl
noncomputable def impl_ImageFault.E14 : Env := ⟨D, [], [(50, impl_yisName.ent), (23, impl_yin.ent), (51, impl_ImageFault_1_v10.ent), (52, slices_ContainsFunc_Snap.ent)], [(8, impl_ImageFault_l8.ent)]⟩
noncomputable def impl_ImageFault_l14_step (rec : List ByteArray → Int → Int → List Bool → Option ((Int × Unit) ⊕ (Unit))) (y0 : List ByteArray) (y1 : Int) (y2 : Int) (y3 : List Bool) : Option ((Int × Unit) ⊕ (Unit)) :=
 bif decide (y2 < y1) then
  bif decide (0 ≤ y2) && decide (y2 < (y0.length : Int)) then
   let b24 : Bool := (((rd (.str) y0 y2).size : Int) != 16)
   let b25 : Bool := (b24 || !(rd (.bool) y3 y2))
   bif (!(!b24) || (decide (0 ≤ y2) && decide (y2 < (y3.length : Int)))) then
    bif b25 then
     some (Sum.inl (1, ()))
    else
     rec y0 y1 (wrap64 (y2 + 1)) y3
   else none
  else none
 else
  some (Sum.inr ())
noncomputable def impl_ImageFault_l14 : Nat → List ByteArray → Int → Int → List Bool → Option ((Int × Unit) ⊕ (Unit))
 | 0 => fun _ _ _ _ => none
 | n + 1 => impl_ImageFault_l14_step (impl_ImageFault_l14 n)
noncomputable def impl_ImageFault_l14.ent : LEntry := ⟨sk 3 (.cell (.fix (.ptr 3 0)) :: (sk 78 (.cell (.val .bor (.slice (.str))) :: (.cell (.val .bor (.int .i64)) :: (.cell (.val .bor (.int .i64)) :: (sk 15 [])))))), rk 3 ([.val .own (.slice (.bool))] :: (rk 96 [])), [], [], [⟨none, sk 2 (.cell (.val .bor (.int .i64)) :: (sk 97 [])), rk 100 [], [], []⟩, ⟨some 2, sk 100 [], rk 100 [], [], []⟩], fun v => impl_ImageFault_l14 K0 v.1 v.2.1 v.2.2.1 v.2.2.2.1⟩
theorem impl_ImageFault_l14.eq : ∀ rec v, evStep impl_ImageFault.E14 (bodyAt 14 f35) impl_ImageFault_l14.ent.ins impl_ImageFault_l14.ent.rts impl_ImageFault_l14.ent.hm impl_ImageFault_l14.ent.nl impl_ImageFault_l14.ent.xs rec v = impl_ImageFault_l14_step (fun c0 c1 c2 c3 => rec (c0, c1, c2, c3, ())) v.1 v.2.1 v.2.2.1 v.2.2.2.1 := by intro rec v; kernel_rfl
noncomputable def impl_ImageFault.E : Env := ⟨D, [], [(50, impl_yisName.ent), (23, impl_yin.ent), (51, impl_ImageFault_1_v10.ent), (52, slices_ContainsFunc_Snap.ent)], [(8, impl_ImageFault_l8.ent), (14, impl_ImageFault_l14.ent)]⟩
noncomputable def impl_ImageFault (a0 : ByteArray) (a1 : ByteArray) (a2 : List Int) (a3 : List ByteArray) (a4 : List V2) : Option (Int × Unit) :=
 (impl_yisName a0).bind fun r1 =>
 let b2 : Bool := !seq a1 (⟨#[]⟩ : ByteArray)
 let r3 : Bool × Unit := (impl_yisName a1).getD (false, ())
 let r4 : Bool × Unit := (impl_yin (a2.length : Int) 1 64).getD (false, ())
 let b5 : Bool := ((!r1.1 || (b2 && !r3.1)) || !r4.1)
 let b6 : Bool := decide ((a3.length : Int) > 128)
 let b7 : Bool := decide ((a4.length : Int) > 8)
 bif (!(!(!r1.1)) || (!b2 || ((impl_yisName a1).isSome))) && (!(!(!r1.1 || (b2 && !r3.1))) || ((impl_yin (a2.length : Int) 1 64).isSome)) then
  bif ((b5 || b6) || b7) then
   some (1, ())
  else
   let l8 : List Bool := List.replicate ((a3.length : Int).toNat) (Ty.dflt (.bool))
   bif decide (0 ≤ (a3.length : Int)) && decide ((a3.length : Int) ≤ (a3.length : Int)) && roomy (a3.length : Int) 1 then
    (impl_ImageFault_1_v10 a2 a0 a1 a2 a3 a4 l8).bind fun r9 =>
    bif !r9.1 then
     some (1, ())
    else
     (impl_ImageFault_l8 K0 a4 (a4.length : Int) 0 a0 a1 a2 a3 a4 r9.2.1).bind fun o21 =>
     match o21 with
     | Sum.inl p22 =>
      some (p22.1, ())
     | Sum.inr p23 =>
      (impl_ImageFault_l14 K0 p23.2.2.2.1 (p23.2.2.2.1.length : Int) 0 p23.2.2.2.2.2.1).bind fun o26 =>
      match o26 with
      | Sum.inl p27 =>
       some (p27.1, ())
      | Sum.inr p28 =>
       some (0, ())
   else none
 else none
noncomputable def impl_ImageFault.ent : Entry := ⟨[false], [.agg [.val .bor (.str), .val .bor (.str), .val .bor (.slice (.int .i64)), .val .bor (.slice (.str)), .val .bor (.slice R2)]], [.cell (.val .bor (.int .i64))], [], fun v => impl_ImageFault v.1 v.2.1 v.2.2.1 v.2.2.2.1 v.2.2.2.2.1⟩
theorem impl_ImageFault.eq : ∀ v, evFn impl_ImageFault.E f35 impl_ImageFault.ent.ptrs impl_ImageFault.ent.ins impl_ImageFault.ent.rets impl_ImageFault.ent.outs v = impl_ImageFault.ent.f v := by intro v; kernel_rfl
theorem impl_ImageFault.fok : ∀ q ∈ [((50 : Nat), impl_yisName.ent), ((23 : Nat), impl_yin.ent), ((51 : Nat), impl_ImageFault_1_v10.ent), ((52 : Nat), slices_ContainsFunc_Snap.ent)], EntryOK Pr q.1 q.2 := by
 intro q hq
 simp only [List.mem_cons, List.mem_nil_iff, or_false] at hq
 rcases hq with rfl | rfl | rfl | rfl
 · exact impl_yisName.ok
 · exact impl_yin.ok
 · exact impl_ImageFault_1_v10.ok
 · exact slices_ContainsFunc_Snap.ok
theorem impl_ImageFault_l8.it : ∀ n v, iter (evStep impl_ImageFault.E8 (bodyAt 8 f35) impl_ImageFault_l8.ent.ins impl_ImageFault_l8.ent.rts impl_ImageFault_l8.ent.hm impl_ImageFault_l8.ent.nl impl_ImageFault_l8.ent.xs) n v = impl_ImageFault_l8 n v.1 v.2.1 v.2.2.1 v.2.2.2.1 v.2.2.2.2.1 v.2.2.2.2.2.1 v.2.2.2.2.2.2.1 v.2.2.2.2.2.2.2.1 v.2.2.2.2.2.2.2.2.1 := by
 intro n
 induction n with
 | zero => intro v; rfl
 | succ n ih =>
  intro v
  show (evStep impl_ImageFault.E8 (bodyAt 8 f35) impl_ImageFault_l8.ent.ins impl_ImageFault_l8.ent.rts impl_ImageFault_l8.ent.hm impl_ImageFault_l8.ent.nl impl_ImageFault_l8.ent.xs) (iter (evStep impl_ImageFault.E8 (bodyAt 8 f35) impl_ImageFault_l8.ent.ins impl_ImageFault_l8.ent.rts impl_ImageFault_l8.ent.hm impl_ImageFault_l8.ent.nl impl_ImageFault_l8.ent.xs) n) v = _
  rw [impl_ImageFault_l8.eq, show (fun c0 c1 c2 c3 c4 c5 c6 c7 c8 => iter (evStep impl_ImageFault.E8 (bodyAt 8 f35) impl_ImageFault_l8.ent.ins impl_ImageFault_l8.ent.rts impl_ImageFault_l8.ent.hm impl_ImageFault_l8.ent.nl impl_ImageFault_l8.ent.xs) n (c0, c1, c2, c3, c4, c5, c6, c7, c8, ())) = impl_ImageFault_l8 n from by funext c0 c1 c2 c3 c4 c5 c6 c7 c8; exact ih _]
  rfl
theorem impl_ImageFault_l8.fr : firstRegion (bodyAt 8 f35) = 8 := by kernel_rfl
theorem impl_ImageFault_l8.ls : loopsOf (bodyAt 8 f35) = [] := by kernel_rfl
theorem impl_ImageFault_l8.lok {E : Env} (hpin : impl_ImageFault.E8.pin = E.pin) (hfind : find 8 E.loops = some impl_ImageFault_l8.ent) : LoopOK Pr E (bodyAt 8 f35) :=
 loop_of (E1 := impl_ImageFault.E8) (EnvOK.of dok impl_ImageFault.fok) mixed hpin (by rw [impl_ImageFault_l8.fr]; exact hfind) impl_ImageFault_l8.ls (by intro l hl; simp at hl) (fun v => (impl_ImageFault_l8.it K0 v).symm)
theorem impl_ImageFault_l14.it : ∀ n v, iter (evStep impl_ImageFault.E14 (bodyAt 14 f35) impl_ImageFault_l14.ent.ins impl_ImageFault_l14.ent.rts impl_ImageFault_l14.ent.hm impl_ImageFault_l14.ent.nl impl_ImageFault_l14.ent.xs) n v = impl_ImageFault_l14 n v.1 v.2.1 v.2.2.1 v.2.2.2.1 := by
 intro n
 induction n with
 | zero => intro v; rfl
 | succ n ih =>
  intro v
  show (evStep impl_ImageFault.E14 (bodyAt 14 f35) impl_ImageFault_l14.ent.ins impl_ImageFault_l14.ent.rts impl_ImageFault_l14.ent.hm impl_ImageFault_l14.ent.nl impl_ImageFault_l14.ent.xs) (iter (evStep impl_ImageFault.E14 (bodyAt 14 f35) impl_ImageFault_l14.ent.ins impl_ImageFault_l14.ent.rts impl_ImageFault_l14.ent.hm impl_ImageFault_l14.ent.nl impl_ImageFault_l14.ent.xs) n) v = _
  rw [impl_ImageFault_l14.eq, show (fun c0 c1 c2 c3 => iter (evStep impl_ImageFault.E14 (bodyAt 14 f35) impl_ImageFault_l14.ent.ins impl_ImageFault_l14.ent.rts impl_ImageFault_l14.ent.hm impl_ImageFault_l14.ent.nl impl_ImageFault_l14.ent.xs) n (c0, c1, c2, c3, ())) = impl_ImageFault_l14 n from by funext c0 c1 c2 c3; exact ih _]
  rfl
theorem impl_ImageFault_l14.fr : firstRegion (bodyAt 14 f35) = 14 := by kernel_rfl
theorem impl_ImageFault_l14.ls : loopsOf (bodyAt 14 f35) = [] := by kernel_rfl
theorem impl_ImageFault_l14.lok {E : Env} (hpin : impl_ImageFault.E14.pin = E.pin) (hfind : find 14 E.loops = some impl_ImageFault_l14.ent) : LoopOK Pr E (bodyAt 14 f35) :=
 loop_of (E1 := impl_ImageFault.E14) (EnvOK.of dok impl_ImageFault.fok) mixed hpin (by rw [impl_ImageFault_l14.fr]; exact hfind) impl_ImageFault_l14.ls (by intro l hl; simp at hl) (fun v => (impl_ImageFault_l14.it K0 v).symm)
theorem impl_ImageFault.ls : loopsOf (bodyOf f35) = [bodyAt 8 f35, bodyAt 14 f35] := by kernel_rfl
theorem impl_ImageFault.ok : EntryOK Pr 35 impl_ImageFault.ent :=
 entry_ok (E := impl_ImageFault.E) (EnvOK.of dok impl_ImageFault.fok) mixed (fn := f35) (by kernel_rfl) (by kernel_rfl) (by decide) impl_ImageFault.ls (by
  intro l hl
  simp only [List.mem_cons, List.mem_nil_iff, or_false] at hl
  rcases hl with rfl | rfl
  · exact impl_ImageFault_l8.lok rfl rfl
  · exact impl_ImageFault_l14.lok rfl rfl) impl_ImageFault.eq
/-! ### loop.example/g00038/impl.yimageAt$1 -/
noncomputable def impl_yimageAt_1.E : Env := ⟨D, [], [], []⟩
noncomputable def impl_yimageAt_1 (a0 : ByteArray) (a1 : ByteArray) (a2 : List Int) (a3 : List ByteArray) (a4 : List V2) (a5 : ByteArray) : Option (Bool × Unit) :=
 some (seq a0 a5, ())
noncomputable def impl_yimageAt_1.ent : Entry := ⟨[false, false], [.agg [.val .bor (.str), .val .bor (.str), .val .bor (.slice (.int .i64)), .val .bor (.slice (.str)), .val .bor (.slice R2)], .rop [.val .bor (.str)]], [.cell (.val .bor (.bool))], [], fun v => impl_yimageAt_1 v.1 v.2.1 v.2.2.1 v.2.2.2.1 v.2.2.2.2.1 v.2.2.2.2.2.1⟩
theorem impl_yimageAt_1.eq : ∀ v, evFn impl_yimageAt_1.E f37 impl_yimageAt_1.ent.ptrs impl_yimageAt_1.ent.ins impl_yimageAt_1.ent.rets impl_yimageAt_1.ent.outs v = impl_yimageAt_1.ent.f v := by intro v; kernel_rfl
theorem impl_yimageAt_1.fok : ∀ q ∈ ([] : List (Nat × Entry)), EntryOK Pr q.1 q.2 := by intro q hq; simp at hq
theorem impl_yimageAt_1.ls : loopsOf (bodyOf f37) = [] := by kernel_rfl
theorem impl_yimageAt_1.ok : EntryOK Pr 37 impl_yimageAt_1.ent :=
 entry_ok (E := impl_yimageAt_1.E) (EnvOK.of dok impl_yimageAt_1.fok) mixed (fn := f37) (by kernel_rfl) (by kernel_rfl) (by decide) impl_yimageAt_1.ls (by intro l hl; simp at hl) impl_yimageAt_1.eq
/-! ### slices.IndexFunc[[]loop.example/g00038/impl.Image,loop.example/g00038/impl.Image] -/
noncomputable def slices_IndexFunc_Image.E2 : Env := ⟨D, [], [(37, impl_yimageAt_1.ent)], []⟩
noncomputable def slices_IndexFunc_Image_l2_step (rec : List V1 → ByteArray → Int → Int → Option ((Int × Unit) ⊕ (Unit))) (y0 : List V1) (y1 : ByteArray) (y2 : Int) (y3 : Int) : Option ((Int × Unit) ⊕ (Unit)) :=
 bif decide (y3 < y2) then
  let e1 : V1 := rd R1 y0 y3
  (impl_yimageAt_1 e1.1 e1.2.1 e1.2.2.1 e1.2.2.2.1 e1.2.2.2.2 y1).bind fun r2 =>
  bif decide (0 ≤ y3) && decide (y3 < (y0.length : Int)) then
   bif r2.1 then
    some (Sum.inl (y3, ()))
   else
    rec y0 y1 y2 (wrap64 (y3 + 1))
  else none
 else
  some (Sum.inr ())
noncomputable def slices_IndexFunc_Image_l2 : Nat → List V1 → ByteArray → Int → Int → Option ((Int × Unit) ⊕ (Unit))
 | 0 => fun _ _ _ _ => none
 | n + 1 => slices_IndexFunc_Image_l2_step (slices_IndexFunc_Image_l2 n)
noncomputable def slices_IndexFunc_Image_l2.ent : LEntry := ⟨(.cell (.val .bor (.slice R1)) :: (.clo 37 [[.val .bor (.str)]] :: (sk 5 (.cell (.val .bor (.int .i64)) :: (.cell (.val .bor (.int .i64)) :: (sk 10 [])))))), rk 19 [], [], [], [⟨none, sk 4 (.cell (.val .bor (.int .i64)) :: (sk 14 [])), rk 19 [], [], []⟩, ⟨some 0, sk 19 [], rk 19 [], [], []⟩], fun v => slices_IndexFunc_Image_l2 K0 v.1 v.2.1 v.2.2.1 v.2.2.2.1⟩
theorem slices_IndexFunc_Image_l2.eq : ∀ rec v, evStep slices_IndexFunc_Image.E2 (bodyAt 2 f36) slices_IndexFunc_Image_l2.ent.ins slices_IndexFunc_Image_l2.ent.rts slices_IndexFunc_Image_l2.ent.hm slices_IndexFunc_Image_l2.ent.nl slices_IndexFunc_Image_l2.ent.xs rec v = slices_IndexFunc_Image_l2_step (fun c0 c1 c2 c3 => rec (c0, c1, c2, c3, ())) v.1 v.2.1 v.2.2.1 v.2.2.2.1 := by intro rec v; kernel_rfl
noncomputable def slices_IndexFunc_Image.E : Env := ⟨D, [], [(37, impl_yimageAt_1.ent)], [(2, slices_IndexFunc_Image_l2.ent)]⟩
noncomputable def slices_IndexFunc_Image (a0 : List V1) (a1 : ByteArray) : Option (Int × Unit) :=
 (slices_IndexFunc_Image_l2 K0 a0 a1 (a0.length : Int) 0).bind fun o3 =>
 match o3 with
 | Sum.inl p4 =>
  some (p4.1, ())
 | Sum.inr p5 =>
  some (-1, ())
noncomputable def slices_IndexFunc_Image.ent : Entry := ⟨[false, false], [.cell (.val .bor (.slice R1)), .clo 37 [[.val .bor (.str)]]], [.cell (.val .bor (.int .i64))], [], fun v => slices_IndexFunc_Image v.1 v.2.1⟩
theorem slices_IndexFunc_Image.eq : ∀ v, evFn slices_IndexFunc_Image.E f36 slices_IndexFunc_Image.ent.ptrs slices_IndexFunc_Image.ent.ins slices_IndexFunc_Image.ent.rets slices_IndexFunc_Image.ent.outs v = slices_IndexFunc_Image.ent.f v := by intro v; kernel_rfl
theorem slices_IndexFunc_Image.fok : ∀ q ∈ [((37 : Nat), impl_yimageAt_1.ent)], EntryOK Pr q.1 q.2 := by
 intro q hq
 simp only [List.mem_cons, List.mem_nil_iff, or_false] at hq
 rcases hq with rfl
 · exact impl_yimageAt_1.ok
theorem slices_IndexFunc_Image_l2.it : ∀ n v, iter (evStep slices_IndexFunc_Image.E2 (bodyAt 2 f36) slices_IndexFunc_Image_l2.ent.ins slices_IndexFunc_Image_l2.ent.rts slices_IndexFunc_Image_l2.ent.hm slices_IndexFunc_Image_l2.ent.nl slices_IndexFunc_Image_l2.ent.xs) n v = slices_IndexFunc_Image_l2 n v.1 v.2.1 v.2.2.1 v.2.2.2.1 := by
 intro n
 induction n with
 | zero => intro v; rfl
 | succ n ih =>
  intro v
  show (evStep slices_IndexFunc_Image.E2 (bodyAt 2 f36) slices_IndexFunc_Image_l2.ent.ins slices_IndexFunc_Image_l2.ent.rts slices_IndexFunc_Image_l2.ent.hm slices_IndexFunc_Image_l2.ent.nl slices_IndexFunc_Image_l2.ent.xs) (iter (evStep slices_IndexFunc_Image.E2 (bodyAt 2 f36) slices_IndexFunc_Image_l2.ent.ins slices_IndexFunc_Image_l2.ent.rts slices_IndexFunc_Image_l2.ent.hm slices_IndexFunc_Image_l2.ent.nl slices_IndexFunc_Image_l2.ent.xs) n) v = _
  rw [slices_IndexFunc_Image_l2.eq, show (fun c0 c1 c2 c3 => iter (evStep slices_IndexFunc_Image.E2 (bodyAt 2 f36) slices_IndexFunc_Image_l2.ent.ins slices_IndexFunc_Image_l2.ent.rts slices_IndexFunc_Image_l2.ent.hm slices_IndexFunc_Image_l2.ent.nl slices_IndexFunc_Image_l2.ent.xs) n (c0, c1, c2, c3, ())) = slices_IndexFunc_Image_l2 n from by funext c0 c1 c2 c3; exact ih _]
  rfl
theorem slices_IndexFunc_Image_l2.fr : firstRegion (bodyAt 2 f36) = 2 := by kernel_rfl
theorem slices_IndexFunc_Image_l2.ls : loopsOf (bodyAt 2 f36) = [] := by kernel_rfl
theorem slices_IndexFunc_Image_l2.lok {E : Env} (hpin : slices_IndexFunc_Image.E2.pin = E.pin) (hfind : find 2 E.loops = some slices_IndexFunc_Image_l2.ent) : LoopOK Pr E (bodyAt 2 f36) :=
 loop_of (E1 := slices_IndexFunc_Image.E2) (EnvOK.of dok slices_IndexFunc_Image.fok) mixed hpin (by rw [slices_IndexFunc_Image_l2.fr]; exact hfind) slices_IndexFunc_Image_l2.ls (by intro l hl; simp at hl) (fun v => (slices_IndexFunc_Image_l2.it K0 v).symm)
theorem slices_IndexFunc_Image.ls : loopsOf (bodyOf f36) = [bodyAt 2 f36] := by kernel_rfl
theorem slices_IndexFunc_Image.ok : EntryOK Pr 36 slices_IndexFunc_Image.ent :=
 entry_ok (E := slices_IndexFunc_Image.E) (EnvOK.of dok slices_IndexFunc_Image.fok) mixed (fn := f36) (by kernel_rfl) (by kernel_rfl) (by decide) slices_IndexFunc_Image.ls (by intro l hl; simp only [List.mem_singleton] at hl; subst hl; exact slices_IndexFunc_Image_l2.lok rfl rfl) slices_IndexFunc_Image.eq
/-! ### loop.example/g00038/impl.yimageAt -/
noncomputable def impl_yimageAt.E : Env := ⟨D, [], [(36, slices_IndexFunc_Image.ent)], []⟩
noncomputable def impl_yimageAt (a0 : List V1) (a1 : ByteArray) : Option (Int × Unit) :=
 (slices_IndexFunc_Image a0 a1).bind fun r1 =>
 some (r1.1, ())
noncomputable def impl_yimageAt.ent : Entry := ⟨[false, false], [.cell (.val .bor (.slice R1)), .cell (.val .bor (.str))], [.cell (.val .bor (.int .i64))], [], fun v => impl_yimageAt v.1 v.2.1⟩
theorem impl_yimageAt.eq : ∀ v, evFn impl_yimageAt.E f20 impl_yimageAt.ent.ptrs impl_yimageAt.ent.ins impl_yimageAt.ent.rets impl_yimageAt.ent.outs v = impl_yimageAt.ent.f v := by intro v; kernel_rfl
theorem impl_yimageAt.fok : ∀ q ∈ [((36 : Nat), slices_IndexFunc_Image.ent)], EntryOK Pr q.1 q.2 := by
 intro q hq
 simp only [List.mem_cons, List.mem_nil_iff, or_false] at hq
 rcases hq with rfl
 · exact slices_IndexFunc_Image.ok
theorem impl_yimageAt.ls : loopsOf (bodyOf f20) = [] := by kernel_rfl
theorem impl_yimageAt.ok : EntryOK Pr 20 impl_yimageAt.ent :=
 entry_ok (E := impl_yimageAt.E) (EnvOK.of dok impl_yimageAt.fok) mixed (fn := f20) (by kernel_rfl) (by kernel_rfl) (by decide) impl_yimageAt.ls (by intro l hl; simp at hl) impl_yimageAt.eq
/-! ### loop.example/g00038/impl.ChainFault -/
noncomputable def impl_ChainFault.E4 : Env := ⟨D, [], [(35, impl_ImageFault.ent), (20, impl_yimageAt.ent)], []⟩
noncomputable def impl_ChainFault_l4_step (rec : List V1 → List V1 → Int → Int → Option ((Int × Unit) ⊕ (List V1 × Unit))) (y0 : List V1) (y1 : List V1) (y2 : Int) (y3 : Int) : Option ((Int × Unit) ⊕ (List V1 × Unit)) :=
 bif decide (y3 < y2) then
  let e2 : V1 := rd R1 y1 y3
  bif decide (0 ≤ y3) && decide (y3 < (y1.length : Int)) then
   (impl_ImageFault e2.1 e2.2.1 e2.2.2.1 e2.2.2.2.1 e2.2.2.2.2).bind fun r3 =>
   let r4 : Int × Unit := (impl_yimageAt y0 e2.1).getD (0, ())
   let b5 : Bool := ((r3.1 != 0) || (r4.1 != y3))
   bif (!(!(r3.1 != 0)) || ((impl_yimageAt y0 e2.1).isSome)) then
    bif b5 then
     some (Sum.inl (1, ()))
    else
     rec y0 y1 y2 (wrap64 (y3 + 1))
   else none
  else none
 else
  some (Sum.inr (y0, ()))
noncomputable def impl_ChainFault_l4 : Nat → List V1 → List V1 → Int → Int → Option ((Int × Unit) ⊕ (List V1 × Unit))
 | 0 => fun _ _ _ _ => none
 | n + 1 => impl_ChainFault_l4_step (impl_ChainFault_l4 n)
noncomputable def impl_ChainFault_l4.ent : LEntry := ⟨(.cell (.val .bor (.slice R1)) :: (sk 11 (.cell (.val .bor (.slice R1)) :: (.cell (.val .bor (.int .i64)) :: (.cell (.val .bor (.int .i64)) :: (sk 44 [])))))), rk 59 [], [], [], [⟨none, sk 2 (.cell (.val .bor (.int .i64)) :: (sk 56 [])), rk 59 [], [], []⟩, ⟨some 0, (.cell (.val .bor (.slice R1)) :: (sk 58 [])), rk 59 [], [], []⟩], fun v => impl_ChainFault_l4 K0 v.1 v.2.1 v.2.2.1 v.2.2.2.1⟩
theorem impl_ChainFault_l4.eq : ∀ rec v, evStep impl_ChainFault.E4 (bodyAt 4 f19) impl_ChainFault_l4.ent.ins impl_ChainFault_l4.ent.rts impl_ChainFault_l4.ent.hm impl_ChainFault_l4.ent.nl impl_ChainFault_l4.ent.xs rec v = impl_ChainFault_l4_step (fun c0 c1 c2 c3 => rec (c0, c1, c2, c3, ())) v.1 v.2.1 v.2.2.1 v.2.2.2.1 := by intro rec v; kernel_rfl
noncomputable def impl_ChainFault.E13 : Env := ⟨D, [], [(35, impl_ImageFault.ent), (20, impl_yimageAt.ent)], [(4, impl_ChainFault_l4.ent)]⟩
noncomputable def impl_ChainFault_l13_step (rec : List V1 → Int → List V1 → Int → Int → ByteArray → ByteArray → List Int → List ByteArray → List V2 → Option ((Int × Unit) ⊕ (List V1 × List V1 × Int × Int × Unit))) (y0 : List V1) (y1 : Int) (y2 : List V1) (y3 : Int) (y4 : Int) (y5 : ByteArray) (y6 : ByteArray) (y7 : List Int) (y8 : List ByteArray) (y9 : List V2) : Option ((Int × Unit) ⊕ (List V1 × List V1 × Int × Int × Unit)) :=
 let b10 : Bool := !seq y6 (⟨#[]⟩ : ByteArray)
 bif b10 then
  (impl_yimageAt y0 y6).bind fun r11 =>
  let b12 : Bool := decide (y1 > (y0.length : Int))
  let b13 : Bool := (decide (r11.1 < 0) || b12)
  bif b13 then
   some (Sum.inl (1, ()))
  else
   let e14 : V1 := rd R1 y0 r11.1
   bif decide (0 ≤ r11.1) && decide (r11.1 < (y0.length : Int)) then
    rec y0 (wrap64 (y1 + 1)) y2 y3 y4 e14.1 e14.2.1 e14.2.2.1 e14.2.2.2.1 e14.2.2.2.2
   else none
 else
  some (Sum.inr (y0, y2, y3, y4, ()))
noncomputable def impl_ChainFault_l13 : Nat → List V1 → Int → List V1 → Int → Int → ByteArray → ByteArray → List Int → List ByteArray → List V2 → Option ((Int × Unit) ⊕ (List V1 × List V1 × Int × Int × Unit))
 | 0 => fun _ _ _ _ _ _ _ _ _ _ => none
 | n + 1 => impl_ChainFault_l13_step (impl_ChainFault_l13 n)
noncomputable def impl_ChainFault_l13.ent : LEntry := ⟨(.cell (.val .bor (.slice R1)) :: (sk 5 (.cell (.fix (.ptr 6 0)) :: (.cell (.val .bor (.int .i64)) :: (sk 23 (.cell (.val .bor (.slice R1)) :: (.cell (.val .bor (.int .i64)) :: (.cell (.val .bor (.int .i64)) :: (sk 25 []))))))))), rk 6 ([.val .bor (.str), .val .bor (.str), .val .bor (.slice (.int .i64)), .val .bor (.slice (.str)), .val .bor (.slice R2)] :: (rk 52 [])), [], [], [⟨none, sk 2 (.cell (.val .bor (.int .i64)) :: (sk 56 [])), rk 59 [], [], []⟩, ⟨some 4, (.cell (.val .bor (.slice R1)) :: (sk 30 (.cell (.val .bor (.slice R1)) :: (.cell (.val .bor (.int .i64)) :: (.cell (.val .bor (.int .i64)) :: (sk 25 [])))))), rk 59 [], [], []⟩], fun v => impl_ChainFault_l13 K0 v.1 v.2.1 v.2.2.1 v.2.2.2.1 v.2.2.2.2.1 v.2.2.2.2.2.1 v.2.2.2.2.2.2.1 v.2.2.2.2.2.2.2.1 v.2.2.2.2.2.2.2.2.1 v.2.2.2.2.2.2.2.2.2.1⟩
theorem impl_ChainFault_l13.eq : ∀ rec v, evStep impl_ChainFault.E13 (bodyAt 13 f19) impl_ChainFault_l13.ent.ins impl_ChainFault_l13.ent.rts impl_ChainFault_l13.ent.hm impl_ChainFault_l13.ent.nl impl_ChainFault_l13.ent.xs rec v = impl_ChainFault_l13_step (fun c0 c1 c2 c3 c4 c5 c6 c7 c8 c9 => rec (c0, c1, c2, c3, c4, c5, c6, c7, c8, c9, ())) v.1 v.2.1 v.2.2.1 v.2.2.2.1 v.2.2.2.2.1 v.2.2.2.2.2.1 v.2.2.2.2.2.2.1 v.2.2.2.2.2.2.2.1 v.2.2.2.2.2.2.2.2.1 v.2.2.2.2.2.2.2.2.2.1 := by intro rec v; kernel_rfl
noncomputable def impl_ChainFault.E10 : Env := ⟨D, [], [(35, impl_ImageFault.ent), (20, impl_yimageAt.ent)], [(4, impl_ChainFault_l4.ent), (13, impl_ChainFault_l13.ent)]⟩
noncomputable def impl_ChainFault_l10_step (rec : List V1 → List V1 → Int → Int → Option ((Int × Unit) ⊕ (Unit))) (y0 : List V1) (y1 : List V1) (y2 : Int) (y3 : Int) : Option ((Int × Unit) ⊕ (Unit)) :=
 bif decide (y3 < y2) then
  let e9 : V1 := rd R1 y1 y3
  bif decide (0 ≤ y3) && decide (y3 < (y1.length : Int)) then
   (impl_ChainFault_l13 K0 y0 0 y1 y2 y3 e9.1 e9.2.1 e9.2.2.1 e9.2.2.2.1 e9.2.2.2.2).bind fun o15 =>
   match o15 with
   | Sum.inl p16 =>
    some (Sum.inl (p16.1, ()))
   | Sum.inr p17 =>
    let x18 : Int := (wrap64 (p17.2.2.2.1 + 1))
    rec p17.1 p17.2.1 p17.2.2.1 x18
  else none
 else
  some (Sum.inr ())
noncomputable def impl_ChainFault_l10 : Nat → List V1 → List V1 → Int → Int → Option ((Int × Unit) ⊕ (Unit))
 | 0 => fun _ _ _ _ => none
 | n + 1 => impl_ChainFault_l10_step (impl_ChainFault_l10 n)
noncomputable def impl_ChainFault_l10.ent : LEntry := ⟨(.cell (.val .bor (.slice R1)) :: (sk 30 (.cell (.val .bor (.slice R1)) :: (.cell (.val .bor (.int .i64)) :: (.cell (.val .bor (.int .i64)) :: (sk 25 [])))))), rk 59 [], [], [], [⟨none, sk 2 (.cell (.val .bor (.int .i64)) :: (sk 56 [])), rk 59 [], [], []⟩, ⟨some 2, sk 59 [], rk 59 [], [], []⟩], fun v => impl_ChainFault_l10 K0 v.1 v.2.1 v.2.2.1 v.2.2.2.1⟩
theorem impl_ChainFault_l10.eq : ∀ rec v, evStep impl_ChainFault.E10 (bodyAt 10 f19) impl_ChainFault_l10.ent.ins impl_ChainFault_l10.ent.rts impl_ChainFault_l10.ent.hm impl_ChainFault_l10.ent.nl impl_ChainFault_l10.ent.xs rec v = impl_ChainFault_l10_step (fun c0 c1 c2 c3 => rec (c0, c1, c2, c3, ())) v.1 v.2.1 v.2.2.1 v.2.2.2.1 := by intro rec v; kernel_rfl
noncomputable def impl_ChainFault.E : Env := ⟨D, [], [(35, impl_ImageFault.ent), (20, impl_yimageAt.ent)], [(4, impl_ChainFault_l4.ent), (13, impl_ChainFault_l13.ent), (10, impl_ChainFault_l10.ent)]⟩
noncomputable def impl_ChainFault (a0 : List V1) : Option (Int × Unit) :=
 let b1 : Bool := decide ((a0.length : Int) > 12)
 bif b1 then
  some (1, ())
 else
  (impl_ChainFault_l4 K0 a0 a0 (a0.length : Int) 0).bind fun o6 =>
  match o6 with
  | Sum.inl p7 =>
   some (p7.1, ())
  | Sum.inr p8 =>
   (impl_ChainFault_l10 K0 p8.1 p8.1 (p8.1.length : Int) 0).bind fun o19 =>
   match o19 with
   | Sum.inl p20 =>
    some (p20.1, ())
   | Sum.inr p21 =>
    some (0, ())
noncomputable def impl_ChainFault.ent : Entry := ⟨[false], [.cell (.val .bor (.slice R1))], [.cell (.val .bor (.int .i64))], [], fun v => impl_ChainFault v.1⟩
theorem impl_ChainFault.eq : ∀ v, evFn impl_ChainFault.E f19 impl_ChainFault.ent.ptrs impl_ChainFault.ent.ins impl_ChainFault.ent.rets impl_ChainFault.ent.outs v = impl_ChainFault.ent.f v := by intro v; kernel_rfl
theorem impl_ChainFault.fok : ∀ q ∈ [((35 : Nat), impl_ImageFault.ent), ((20 : Nat), impl_yimageAt.ent)], EntryOK Pr q.1 q.2 := by
 intro q hq
 simp only [List.mem_cons, List.mem_nil_iff, or_false] at hq
 rcases hq with rfl | rfl
 · exact impl_ImageFault.ok
 · exact impl_yimageAt.ok
theorem impl_ChainFault_l4.it : ∀ n v, iter (evStep impl_ChainFault.E4 (bodyAt 4 f19) impl_ChainFault_l4.ent.ins impl_ChainFault_l4.ent.rts impl_ChainFault_l4.ent.hm impl_ChainFault_l4.ent.nl impl_ChainFault_l4.ent.xs) n v = impl_ChainFault_l4 n v.1 v.2.1 v.2.2.1 v.2.2.2.1 := by
 intro n
 induction n with
 | zero => intro v; rfl
 | succ n ih =>
  intro v
  show (evStep impl_ChainFault.E4 (bodyAt 4 f19) impl_ChainFault_l4.ent.ins impl_ChainFault_l4.ent.rts impl_ChainFault_l4.ent.hm impl_ChainFault_l4.ent.nl impl_ChainFault_l4.ent.xs) (iter (evStep impl_ChainFault.E4 (bodyAt 4 f19) impl_ChainFault_l4.ent.ins impl_ChainFault_l4.ent.rts impl_ChainFault_l4.ent.hm impl_ChainFault_l4.ent.nl impl_ChainFault_l4.ent.xs) n) v = _
  rw [impl_ChainFault_l4.eq, show (fun c0 c1 c2 c3 => iter (evStep impl_ChainFault.E4 (bodyAt 4 f19) impl_ChainFault_l4.ent.ins impl_ChainFault_l4.ent.rts impl_ChainFault_l4.ent.hm impl_ChainFault_l4.ent.nl impl_ChainFault_l4.ent.xs) n (c0, c1, c2, c3, ())) = impl_ChainFault_l4 n from by funext c0 c1 c2 c3; exact ih _]
  rfl
theorem impl_ChainFault_l4.fr : firstRegion (bodyAt 4 f19) = 4 := by kernel_rfl
theorem impl_ChainFault_l4.ls : loopsOf (bodyAt 4 f19) = [] := by kernel_rfl
theorem impl_ChainFault_l4.lok {E : Env} (hpin : impl_ChainFault.E4.pin = E.pin) (hfind : find 4 E.loops = some impl_ChainFault_l4.ent) : LoopOK Pr E (bodyAt 4 f19) :=
 loop_of (E1 := impl_ChainFault.E4) (EnvOK.of dok impl_ChainFault.fok) mixed hpin (by rw [impl_ChainFault_l4.fr]; exact hfind) impl_ChainFault_l4.ls (by intro l hl; simp at hl) (fun v => (impl_ChainFault_l4.it K0 v).symm)
theorem impl_ChainFault_l13.it : ∀ n v, iter (evStep impl_ChainFault.E13 (bodyAt 13 f19) impl_ChainFault_l13.ent.ins impl_ChainFault_l13.ent.rts impl_ChainFault_l13.ent.hm impl_ChainFault_l13.ent.nl impl_ChainFault_l13.ent.xs) n v = impl_ChainFault_l13 n v.1 v.2.1 v.2.2.1 v.2.2.2.1 v.2.2.2.2.1 v.2.2.2.2.2.1 v.2.2.2.2.2.2.1 v.2.2.2.2.2.2.2.1 v.2.2.2.2.2.2.2.2.1 v.2.2.2.2.2.2.2.2.2.1 := by
 intro n
 induction n with
 | zero => intro v; rfl
 | succ n ih =>
  intro v
  show (evStep impl_ChainFault.E13 (bodyAt 13 f19) impl_ChainFault_l13.ent.ins impl_ChainFault_l13.ent.rts impl_ChainFault_l13.ent.hm impl_ChainFault_l13.ent.nl impl_ChainFault_l13.ent.xs) (iter (evStep impl_ChainFault.E13 (bodyAt 13 f19) impl_ChainFault_l13.ent.ins impl_ChainFault_l13.ent.rts impl_ChainFault_l13.ent.hm impl_ChainFault_l13.ent.nl impl_ChainFault_l13.ent.xs) n) v = _
  rw [impl_ChainFault_l13.eq, show (fun c0 c1 c2 c3 c4 c5 c6 c7 c8 c9 => iter (evStep impl_ChainFault.E13 (bodyAt 13 f19) impl_ChainFault_l13.ent.ins impl_ChainFault_l13.ent.rts impl_ChainFault_l13.ent.hm impl_ChainFault_l13.ent.nl impl_ChainFault_l13.ent.xs) n (c0, c1, c2, c3, c4, c5, c6, c7, c8, c9, ())) = impl_ChainFault_l13 n from by funext c0 c1 c2 c3 c4 c5 c6 c7 c8 c9; exact ih _]
  rfl
theorem impl_ChainFault_l13.fr : firstRegion (bodyAt 13 f19) = 13 := by kernel_rfl
theorem impl_ChainFault_l13.ls : loopsOf (bodyAt 13 f19) = [] := by kernel_rfl
theorem impl_ChainFault_l13.lok {E : Env} (hpin : impl_ChainFault.E13.pin = E.pin) (hfind : find 13 E.loops = some impl_ChainFault_l13.ent) : LoopOK Pr E (bodyAt 13 f19) :=
 loop_of (E1 := impl_ChainFault.E13) (EnvOK.of dok impl_ChainFault.fok) mixed hpin (by rw [impl_ChainFault_l13.fr]; exact hfind) impl_ChainFault_l13.ls (by intro l hl; simp at hl) (fun v => (impl_ChainFault_l13.it K0 v).symm)
theorem impl_ChainFault_l10.it : ∀ n v, iter (evStep impl_ChainFault.E10 (bodyAt 10 f19) impl_ChainFault_l10.ent.ins impl_ChainFault_l10.ent.rts impl_ChainFault_l10.ent.hm impl_ChainFault_l10.ent.nl impl_ChainFault_l10.ent.xs) n v = impl_ChainFault_l10 n v.1 v.2.1 v.2.2.1 v.2.2.2.1 := by
 intro n
 induction n with
 | zero => intro v; rfl
 | succ n ih =>
  intro v
  show (evStep impl_ChainFault.E10 (bodyAt 10 f19) impl_ChainFault_l10.ent.ins impl_ChainFault_l10.ent.rts impl_ChainFault_l10.ent.hm impl_ChainFault_l10.ent.nl impl_ChainFault_l10.ent.xs) (iter (evStep impl_ChainFault.E10 (bodyAt 10 f19) impl_ChainFault_l10.ent.ins impl_ChainFault_l10.ent.rts impl_ChainFault_l10.ent.hm impl_ChainFault_l10.ent.nl impl_ChainFault_l10.ent.xs) n) v = _
  rw [impl_ChainFault_l10.eq, show (fun c0 c1 c2 c3 => iter (evStep impl_ChainFault.E10 (bodyAt 10 f19) impl_ChainFault_l10.ent.ins impl_ChainFault_l10.ent.rts impl_ChainFault_l10.ent.hm impl_ChainFault_l10.ent.nl impl_ChainFault_l10.ent.xs) n (c0, c1, c2, c3, ())) = impl_ChainFault_l10 n from by funext c0 c1 c2 c3; exact ih _]
  rfl
theorem impl_ChainFault_l10.fr : firstRegion (bodyAt 10 f19) = 10 := by kernel_rfl
theorem impl_ChainFault_l10.ls : loopsOf (bodyAt 10 f19) = [bodyAt 13 f19] := by kernel_rfl
theorem impl_ChainFault_l10.lok {E : Env} (hpin : impl_ChainFault.E10.pin = E.pin) (hfind : find 10 E.loops = some impl_ChainFault_l10.ent) : LoopOK Pr E (bodyAt 10 f19) :=
 loop_of (E1 := impl_ChainFault.E10) (EnvOK.of dok impl_ChainFault.fok) mixed hpin (by rw [impl_ChainFault_l10.fr]; exact hfind) impl_ChainFault_l10.ls (by intro l hl; simp only [List.mem_singleton] at hl; subst hl; exact impl_ChainFault_l13.lok rfl rfl) (fun v => (impl_ChainFault_l10.it K0 v).symm)
theorem impl_ChainFault.ls : loopsOf (bodyOf f19) = [bodyAt 4 f19, bodyAt 10 f19, bodyAt 13 f19] := by kernel_rfl
theorem impl_ChainFault.ok : EntryOK Pr 19 impl_ChainFault.ent :=
 entry_ok (E := impl_ChainFault.E) (EnvOK.of dok impl_ChainFault.fok) mixed (fn := f19) (by kernel_rfl) (by kernel_rfl) (by decide) impl_ChainFault.ls (by
  intro l hl
  simp only [List.mem_cons, List.mem_nil_iff, or_false] at hl
  rcases hl with rfl | rfl | rfl
  · exact impl_ChainFault_l4.lok rfl rfl
  · exact impl_ChainFault_l10.lok rfl rfl
  · exact impl_ChainFault_l13.lok rfl rfl) impl_ChainFault.eq
/-! ### loop.example/g00038/impl.ybehind$1 -/
noncomputable def impl_ybehind_1.E : Env := ⟨D, [], [], []⟩
noncomputable def impl_ybehind_1 (a0 : ByteArray) (a1 : ByteArray) (a2 : List Int) (a3 : List ByteArray) (a4 : List V2) (a5 : ByteArray) : Option (Bool × Unit) :=
 some (seq a1 a5, ())
noncomputable def impl_ybehind_1.ent : Entry := ⟨[false, false], [.agg [.val .bor (.str), .val .bor (.str), .val .bor (.slice (.int .i64)), .val .bor (.slice (.str)), .val .bor (.slice R2)], .rop [.val .bor (.str)]], [.cell (.val .bor (.bool))], [], fun v => impl_ybehind_1 v.1 v.2.1 v.2.2.1 v.2.2.2.1 v.2.2.2.2.1 v.2.2.2.2.2.1⟩
theorem impl_ybehind_1.eq : ∀ v, evFn impl_ybehind_1.E f39 impl_ybehind_1.ent.ptrs impl_ybehind_1.ent.ins impl_ybehind_1.ent.rets impl_ybehind_1.ent.outs v = impl_ybehind_1.ent.f v := by intro v; kernel_rfl
theorem impl_ybehind_1.fok : ∀ q ∈ ([] : List (Nat × Entry)), EntryOK Pr q.1 q.2 := by intro q hq; simp at hq
theorem impl_ybehind_1.ls : loopsOf (bodyOf f39) = [] := by kernel_rfl
theorem impl_ybehind_1.ok : EntryOK Pr 39 impl_ybehind_1.ent :=
 entry_ok (E := impl_ybehind_1.E) (EnvOK.of dok impl_ybehind_1.fok) mixed (fn := f39) (by kernel_rfl) (by kernel_rfl) (by decide) impl_ybehind_1.ls (by intro l hl; simp at hl) impl_ybehind_1.eq
/-! ### slices.IndexFunc[[]loop.example/g00038/impl.Image,loop.example/g00038/impl.Image] -/
noncomputable def slices_IndexFunc_Image_v2.E2 : Env := ⟨D, [], [(39, impl_ybehind_1.ent)], []⟩
noncomputable def slices_IndexFunc_Image_v2_l2_step (rec : List V1 → ByteArray → Int → Int → Option ((Int × Unit) ⊕ (Unit))) (y0 : List V1) (y1 : ByteArray) (y2 : Int) (y3 : Int) : Option ((Int × Unit) ⊕ (Unit)) :=
 bif decide (y3 < y2) then
  let e1 : V1 := rd R1 y0 y3
  (impl_ybehind_1 e1.1 e1.2.1 e1.2.2.1 e1.2.2.2.1 e1.2.2.2.2 y1).bind fun r2 =>
  bif decide (0 ≤ y3) && decide (y3 < (y0.length : Int)) then
   bif r2.1 then
    some (Sum.inl (y3, ()))
   else
    rec y0 y1 y2 (wrap64 (y3 + 1))
  else none
 else
  some (Sum.inr ())
noncomputable def slices_IndexFunc_Image_v2_l2 : Nat → List V1 → ByteArray → Int → Int → Option ((Int × Unit) ⊕ (Unit))
 | 0 => fun _ _ _ _ => none
 | n + 1 => slices_IndexFunc_Image_v2_l2_step (slices_IndexFunc_Image_v2_l2 n)
noncomputable def slices_IndexFunc_Image_v2_l2.ent : LEntry := ⟨(.cell (.val .bor (.slice R1)) :: (.clo 39 [[.val .bor (.str)]] :: (sk 5 (.cell (.val .bor (.int .i64)) :: (.cell (.val .bor (.int .i64)) :: (sk 10 [])))))), rk 19 [], [], [], [⟨none, sk 4 (.cell (.val .bor (.int .i64)) :: (sk 14 [])), rk 19 [], [], []⟩, ⟨some 0, sk 19 [], rk 19 [], [], []⟩], fun v => slices_IndexFunc_Image_v2_l2 K0 v.1 v.2.1 v.2.2.1 v.2.2.2.1⟩
theorem slices_IndexFunc_Image_v2_l2.eq : ∀ rec v, evStep slices_IndexFunc_Image_v2.E2 (bodyAt 2 f36) slices_IndexFunc_Image_v2_l2.ent.ins slices_IndexFunc_Image_v2_l2.ent.rts slices_IndexFunc_Image_v2_l2.ent.hm slices_IndexFunc_Image_v2_l2.ent.nl slices_IndexFunc_Image_v2_l2.ent.xs rec v = slices_IndexFunc_Image_v2_l2_step (fun c0 c1 c2 c3 => rec (c0, c1, c2, c3, ())) v.1 v.2.1 v.2.2.1 v.2.2.2.1 := by intro rec v; kernel_rfl
noncomputable def slices_IndexFunc_Image_v2.E : Env := ⟨D, [], [(39, impl_ybehind_1.ent)], [(2, slices_IndexFunc_Image_v2_l2.ent)]⟩
noncomputable def slices_IndexFunc_Image_v2 (a0 : List V1) (a1 : ByteArray) : Option (Int × Unit) :=
 (slices_IndexFunc_Image_v2_l2 K0 a0 a1 (a0.length : Int) 0).bind fun o3 =>
 match o3 with
 | Sum.inl p4 =>
  some (p4.1, ())
 | Sum.inr p5 =>
  some (-1, ())
noncomputable def slices_IndexFunc_Image_v2.ent : Entry := ⟨[false, false], [.cell (.val .bor (.slice R1)), .clo 39 [[.val .bor (.str)]]], [.cell (.val .bor (.int .i64))], [], fun v => slices_IndexFunc_Image_v2 v.1 v.2.1⟩
theorem slices_IndexFunc_Image_v2.eq : ∀ v, evFn slices_IndexFunc_Image_v2.E f36 slices_IndexFunc_Image_v2.ent.ptrs slices_IndexFunc_Image_v2.ent.ins slices_IndexFunc_Image_v2.ent.rets slices_IndexFunc_Image_v2.ent.outs v = slices_IndexFunc_Image_v2.ent.f v := by intro v; kernel_rfl
theorem slices_IndexFunc_Image_v2.fok : ∀ q ∈ [((39 : Nat), impl_ybehind_1.ent)], EntryOK Pr q.1 q.2 := by
 intro q hq
 simp only [List.mem_cons, List.mem_nil_iff, or_false] at hq
 rcases hq with rfl
 · exact impl_ybehind_1.ok
theorem slices_IndexFunc_Image_v2_l2.it : ∀ n v, iter (evStep slices_IndexFunc_Image_v2.E2 (bodyAt 2 f36) slices_IndexFunc_Image_v2_l2.ent.ins slices_IndexFunc_Image_v2_l2.ent.rts slices_IndexFunc_Image_v2_l2.ent.hm slices_IndexFunc_Image_v2_l2.ent.nl slices_IndexFunc_Image_v2_l2.ent.xs) n v = slices_IndexFunc_Image_v2_l2 n v.1 v.2.1 v.2.2.1 v.2.2.2.1 := by
 intro n
 induction n with
 | zero => intro v; rfl
 | succ n ih =>
  intro v
  show (evStep slices_IndexFunc_Image_v2.E2 (bodyAt 2 f36) slices_IndexFunc_Image_v2_l2.ent.ins slices_IndexFunc_Image_v2_l2.ent.rts slices_IndexFunc_Image_v2_l2.ent.hm slices_IndexFunc_Image_v2_l2.ent.nl slices_IndexFunc_Image_v2_l2.ent.xs) (iter (evStep slices_IndexFunc_Image_v2.E2 (bodyAt 2 f36) slices_IndexFunc_Image_v2_l2.ent.ins slices_IndexFunc_Image_v2_l2.ent.rts slices_IndexFunc_Image_v2_l2.ent.hm slices_IndexFunc_Image_v2_l2.ent.nl slices_IndexFunc_Image_v2_l2.ent.xs) n) v = _
  rw [slices_IndexFunc_Image_v2_l2.eq, show (fun c0 c1 c2 c3 => iter (evStep slices_IndexFunc_Image_v2.E2 (bodyAt 2 f36) slices_IndexFunc_Image_v2_l2.ent.ins slices_IndexFunc_Image_v2_l2.ent.rts slices_IndexFunc_Image_v2_l2.ent.hm slices_IndexFunc_Image_v2_l2.ent.nl slices_IndexFunc_Image_v2_l2.ent.xs) n (c0, c1, c2, c3, ())) = slices_IndexFunc_Image_v2_l2 n from by funext c0 c1 c2 c3; exact ih _]
  rfl
theorem slices_IndexFunc_Image_v2_l2.fr : firstRegion (bodyAt 2 f36) = 2 := by kernel_rfl
theorem slices_IndexFunc_Image_v2_l2.ls : loopsOf (bodyAt 2 f36) = [] := by kernel_rfl
theorem slices_IndexFunc_Image_v2_l2.lok {E : Env} (hpin : slices_IndexFunc_Image_v2.E2.pin = E.pin) (hfind : find 2 E.loops = some slices_IndexFunc_Image_v2_l2.ent) : LoopOK Pr E (bodyAt 2 f36) :=
 loop_of (E1 := slices_IndexFunc_Image_v2.E2) (EnvOK.of dok slices_IndexFunc_Image_v2.fok) mixed hpin (by rw [slices_IndexFunc_Image_v2_l2.fr]; exact hfind) slices_IndexFunc_Image_v2_l2.ls (by intro l hl; simp at hl) (fun v => (slices_IndexFunc_Image_v2_l2.it K0 v).symm)
theorem slices_IndexFunc_Image_v2.ls : loopsOf (bodyOf f36) = [bodyAt 2 f36] := by kernel_rfl
theorem slices_IndexFunc_Image_v2.ok : EntryOK Pr 36 slices_IndexFunc_Image_v2.ent :=
 entry_ok (E := slices_IndexFunc_Image_v2.E) (EnvOK.of dok slices_IndexFunc_Image_v2.fok) mixed (fn := f36) (by kernel_rfl) (by kernel_rfl) (by decide) slices_IndexFunc_Image_v2.ls (by intro l hl; simp only [List.mem_singleton] at hl; subst hl; exact slices_IndexFunc_Image_v2_l2.lok rfl rfl) slices_IndexFunc_Image_v2.eq
/-! ### slices.ContainsFunc[[]loop.example/g00038/impl.Image,loop.example/g00038/impl.Image] -/
noncomputable def slices_ContainsFunc_Image.E : Env := ⟨D, [], [(36, slices_IndexFunc_Image_v2.ent)], []⟩
noncomputable def slices_ContainsFunc_Image (a0 : List V1) (a1 : ByteArray) : Option (Bool × Unit) :=
 (slices_IndexFunc_Image_v2 a0 a1).bind fun r1 =>
 some (decide (r1.1 ≥ 0), ())
noncomputable def slices_ContainsFunc_Image.ent : Entry := ⟨[false, false], [.cell (.val .bor (.slice R1)), .clo 39 [[.val .bor (.str)]]], [.cell (.val .bor (.bool))], [], fun v => slices_ContainsFunc_Image v.1 v.2.1⟩
theorem slices_ContainsFunc_Image.eq : ∀ v, evFn slices_ContainsFunc_Image.E f38 slices_ContainsFunc_Image.ent.ptrs slices_ContainsFunc_Image.ent.ins slices_ContainsFunc_Image.ent.rets slices_ContainsFunc_Image.ent.outs v = slices_ContainsFunc_Image.ent.f v := by intro v; kernel_rfl
theorem slices_ContainsFunc_Image.fok : ∀ q ∈ [((36 : Nat), slices_IndexFunc_Image_v2.ent)], EntryOK Pr q.1 q.2 := by
 intro q hq
 simp only [List.mem_cons, List.mem_nil_iff, or_false] at hq
 rcases hq with rfl
 · exact slices_IndexFunc_Image_v2.ok
theorem slices_ContainsFunc_Image.ls : loopsOf (bodyOf f38) = [] := by kernel_rfl
theorem slices_ContainsFunc_Image.ok : EntryOK Pr 38 slices_ContainsFunc_Image.ent :=
 entry_ok (E := slices_ContainsFunc_Image.E) (EnvOK.of dok slices_ContainsFunc_Image.fok) mixed (fn := f38) (by kernel_rfl) (by kernel_rfl) (by decide) slices_ContainsFunc_Image.ls (by intro l hl; simp at hl) slices_ContainsFunc_Image.eq
/-! ### loop.example/g00038/impl.ybehind -/
noncomputable def impl_ybehind.E : Env := ⟨D, [], [(38, slices_ContainsFunc_Image.ent)], []⟩
noncomputable def impl_ybehind (a0 : List V1) (a1 : ByteArray) : Option (Bool × Unit) :=
 (slices_ContainsFunc_Image a0 a1).bind fun r1 =>
 some (r1.1, ())
noncomputable def impl_ybehind.ent : Entry := ⟨[false, false], [.cell (.val .bor (.slice R1)), .cell (.val .bor (.str))], [.cell (.val .bor (.bool))], [], fun v => impl_ybehind v.1 v.2.1⟩
theorem impl_ybehind.eq : ∀ v, evFn impl_ybehind.E f21 impl_ybehind.ent.ptrs impl_ybehind.ent.ins impl_ybehind.ent.rets impl_ybehind.ent.outs v = impl_ybehind.ent.f v := by intro v; kernel_rfl
theorem impl_ybehind.fok : ∀ q ∈ [((38 : Nat), slices_ContainsFunc_Image.ent)], EntryOK Pr q.1 q.2 := by
 intro q hq
 simp only [List.mem_cons, List.mem_nil_iff, or_false] at hq
 rcases hq with rfl
 · exact slices_ContainsFunc_Image.ok
theorem impl_ybehind.ls : loopsOf (bodyOf f21) = [] := by kernel_rfl
theorem impl_ybehind.ok : EntryOK Pr 21 impl_ybehind.ent :=
 entry_ok (E := impl_ybehind.E) (EnvOK.of dok impl_ybehind.fok) mixed (fn := f21) (by kernel_rfl) (by kernel_rfl) (by decide) impl_ybehind.ls (by intro l hl; simp at hl) impl_ybehind.eq
/-! ### (loop.example/g00038/impl.Job).ytarget -/
noncomputable def impl_Job_ytarget.E : Env := ⟨D, [], [(23, impl_yin.ent)], []⟩
noncomputable def impl_Job_ytarget (a0 : Int) (a1 : Int) (a2 : ByteArray) (a3 : ByteArray) : Option (Bool × Unit) :=
 (impl_yin a0 1 3).bind fun r1 =>
 let b2 : Bool := !seq a3 (⟨#[]⟩ : ByteArray)
 let b3 : Bool := (r1.1 && (b2 == (a0 == 3)))
 some (b3, ())
noncomputable def impl_Job_ytarget.ent : Entry := ⟨[false], [.agg [.val .bor (.int .i64), .val .bor (.int .i64), .val .bor (.str), .val .bor (.str)]], [.cell (.val .bor (.bool))], [], fun v => impl_Job_ytarget v.1 v.2.1 v.2.2.1 v.2.2.2.1⟩
theorem impl_Job_ytarget.eq : ∀ v, evFn impl_Job_ytarget.E f22 impl_Job_ytarget.ent.ptrs impl_Job_ytarget.ent.ins impl_Job_ytarget.ent.rets impl_Job_ytarget.ent.outs v = impl_Job_ytarget.ent.f v := by intro v; kernel_rfl
theorem impl_Job_ytarget.fok : ∀ q ∈ [((23 : Nat), impl_yin.ent)], EntryOK Pr q.1 q.2 := by
 intro q hq
 simp only [List.mem_cons, List.mem_nil_iff, or_false] at hq
 rcases hq with rfl
 · exact impl_yin.ok
theorem impl_Job_ytarget.ls : loopsOf (bodyOf f22) = [] := by kernel_rfl
theorem impl_Job_ytarget.ok : EntryOK Pr 22 impl_Job_ytarget.ent :=
 entry_ok (E := impl_Job_ytarget.E) (EnvOK.of dok impl_Job_ytarget.fok) mixed (fn := f22) (by kernel_rfl) (by kernel_rfl) (by decide) impl_Job_ytarget.ls (by intro l hl; simp at hl) impl_Job_ytarget.eq
/-! ### loop.example/g00038/impl.ycountBits -/
noncomputable def impl_ycountBits.E6 : Env := ⟨D, [], [], []⟩
noncomputable def impl_ycountBits_l6_step (rec : ByteArray → Int → Int → Int → Int → Int → Option ((ByteArray × Int × Int × Int × Unit))) (y0 : ByteArray) (y1 : Int) (y2 : Int) (y3 : Int) (y4 : Int) (y5 : Int) : Option ((ByteArray × Int × Int × Int × Unit)) :=
 bif decide (y5 < 8) then
  let x1 : Int := (bits .and .u8 (shr .u8 (bt y0 y2) y5) 1)
  let x2 : Int := (wrap64 (y1 + (wrap64 (x1))))
  bif (decide (0 ≤ y2) && decide (y2 < (y0.size : Int))) && (decide (0 ≤ y5)) then
   rec y0 x2 y2 y3 y4 (wrap64 (y5 + 1))
  else none
 else
  some (y0, y1, y3, y4, ())
noncomputable def impl_ycountBits_l6 : Nat → ByteArray → Int → Int → Int → Int → Int → Option ((ByteArray × Int × Int × Int × Unit))
 | 0 => fun _ _ _ _ _ _ => none
 | n + 1 => impl_ycountBits_l6_step (impl_ycountBits_l6 n)
noncomputable def impl_ycountBits_l6.ent : LEntry := ⟨(.cell (.val .bor (.str)) :: (sk 2 (.cell (.val .bor (.int .i64)) :: (.cell (.val .bor (.int .i64)) :: (sk 2 (.cell (.val .bor (.int .i64)) :: (.cell (.val .bor (.int .i64)) :: (sk 2 (.cell (.val .bor (.int .i64)) :: (sk 14 [])))))))))), rk 26 [], [], [], [⟨some 2, (.cell (.val .bor (.str)) :: (sk 2 (.cell (.val .bor (.int .i64)) :: (sk 3 (.cell (.val .bor (.int .i64)) :: (.cell (.val .bor (.int .i64)) :: (sk 17 []))))))), rk 26 [], [], []⟩], fun v => impl_ycountBits_l6 K0 v.1 v.2.1 v.2.2.1 v.2.2.2.1 v.2.2.2.2.1 v.2.2.2.2.2.1⟩
theorem impl_ycountBits_l6.eq : ∀ rec v, evStep impl_ycountBits.E6 (bodyAt 6 f24) impl_ycountBits_l6.ent.ins impl_ycountBits_l6.ent.rts impl_ycountBits_l6.ent.hm impl_ycountBits_l6.ent.nl impl_ycountBits_l6.ent.xs rec v = impl_ycountBits_l6_step (fun c0 c1 c2 c3 c4 c5 => rec (c0, c1, c2, c3, c4, c5, ())) v.1 v.2.1 v.2.2.1 v.2.2.2.1 v.2.2.2.2.1 v.2.2.2.2.2.1 := by intro rec v; kernel_rfl
noncomputable def impl_ycountBits.E3 : Env := ⟨D, [], [], [(6, impl_ycountBits_l6.ent)]⟩
noncomputable def impl_ycountBits_l3_step (rec : ByteArray → Int → Int → Int → Option ((Int × Unit))) (y0 : ByteArray) (y1 : Int) (y2 : Int) (y3 : Int) : Option ((Int × Unit)) :=
 bif decide (y3 < y2) then
  (impl_ycountBits_l6 K0 y0 y1 y3 y2 y3 0).bind fun o3 =>
  let x4 : Int := (wrap64 (o3.2.2.2.1 + 1))
  rec o3.1 o3.2.1 o3.2.2.1 x4
 else
  some (y1, ())
noncomputable def impl_ycountBits_l3 : Nat → ByteArray → Int → Int → Int → Option ((Int × Unit))
 | 0 => fun _ _ _ _ => none
 | n + 1 => impl_ycountBits_l3_step (impl_ycountBits_l3 n)
noncomputable def impl_ycountBits_l3.ent : LEntry := ⟨(.cell (.val .bor (.str)) :: (sk 2 (.cell (.val .bor (.int .i64)) :: (sk 3 (.cell (.val .bor (.int .i64)) :: (.cell (.val .bor (.int .i64)) :: (sk 17 []))))))), rk 26 [], [], [], [⟨some 0, sk 3 (.cell (.val .bor (.int .i64)) :: (sk 22 [])), rk 26 [], [], []⟩], fun v => impl_ycountBits_l3 K0 v.1 v.2.1 v.2.2.1 v.2.2.2.1⟩
theorem impl_ycountBits_l3.eq : ∀ rec v, evStep impl_ycountBits.E3 (bodyAt 3 f24) impl_ycountBits_l3.ent.ins impl_ycountBits_l3.ent.rts impl_ycountBits_l3.ent.hm impl_ycountBits_l3.ent.nl impl_ycountBits_l3.ent.xs rec v = impl_ycountBits_l3_step (fun c0 c1 c2 c3 => rec (c0, c1, c2, c3, ())) v.1 v.2.1 v.2.2.1 v.2.2.2.1 := by intro rec v; kernel_rfl
noncomputable def impl_ycountBits.E : Env := ⟨D, [], [], [(6, impl_ycountBits_l6.ent), (3, impl_ycountBits_l3.ent)]⟩
noncomputable def impl_ycountBits (a0 : ByteArray) : Option (Int × Unit) :=
 (impl_ycountBits_l3 K0 a0 0 (a0.size : Int) 0).bind fun o5 =>
 some (o5.1, ())
noncomputable def impl_ycountBits.ent : Entry := ⟨[false], [.cell (.val .bor (.str))], [.cell (.val .bor (.int .i64))], [], fun v => impl_ycountBits v.1⟩
theorem impl_ycountBits.eq : ∀ v, evFn impl_ycountBits.E f24 impl_ycountBits.ent.ptrs impl_ycountBits.ent.ins impl_ycountBits.ent.rets impl_ycountBits.ent.outs v = impl_ycountBits.ent.f v := by intro v; kernel_rfl
theorem impl_ycountBits.fok : ∀ q ∈ ([] : List (Nat × Entry)), EntryOK Pr q.1 q.2 := by intro q hq; simp at hq
theorem impl_ycountBits_l6.it : ∀ n v, iter (evStep impl_ycountBits.E6 (bodyAt 6 f24) impl_ycountBits_l6.ent.ins impl_ycountBits_l6.ent.rts impl_ycountBits_l6.ent.hm impl_ycountBits_l6.ent.nl impl_ycountBits_l6.ent.xs) n v = impl_ycountBits_l6 n v.1 v.2.1 v.2.2.1 v.2.2.2.1 v.2.2.2.2.1 v.2.2.2.2.2.1 := by
 intro n
 induction n with
 | zero => intro v; rfl
 | succ n ih =>
  intro v
  show (evStep impl_ycountBits.E6 (bodyAt 6 f24) impl_ycountBits_l6.ent.ins impl_ycountBits_l6.ent.rts impl_ycountBits_l6.ent.hm impl_ycountBits_l6.ent.nl impl_ycountBits_l6.ent.xs) (iter (evStep impl_ycountBits.E6 (bodyAt 6 f24) impl_ycountBits_l6.ent.ins impl_ycountBits_l6.ent.rts impl_ycountBits_l6.ent.hm impl_ycountBits_l6.ent.nl impl_ycountBits_l6.ent.xs) n) v = _
  rw [impl_ycountBits_l6.eq, show (fun c0 c1 c2 c3 c4 c5 => iter (evStep impl_ycountBits.E6 (bodyAt 6 f24) impl_ycountBits_l6.ent.ins impl_ycountBits_l6.ent.rts impl_ycountBits_l6.ent.hm impl_ycountBits_l6.ent.nl impl_ycountBits_l6.ent.xs) n (c0, c1, c2, c3, c4, c5, ())) = impl_ycountBits_l6 n from by funext c0 c1 c2 c3 c4 c5; exact ih _]
  rfl
theorem impl_ycountBits_l6.fr : firstRegion (bodyAt 6 f24) = 6 := by kernel_rfl
theorem impl_ycountBits_l6.ls : loopsOf (bodyAt 6 f24) = [] := by kernel_rfl
theorem impl_ycountBits_l6.lok {E : Env} (hpin : impl_ycountBits.E6.pin = E.pin) (hfind : find 6 E.loops = some impl_ycountBits_l6.ent) : LoopOK Pr E (bodyAt 6 f24) :=
 loop_of (E1 := impl_ycountBits.E6) (EnvOK.of dok impl_ycountBits.fok) mixed hpin (by rw [impl_ycountBits_l6.fr]; exact hfind) impl_ycountBits_l6.ls (by intro l hl; simp at hl) (fun v => (impl_ycountBits_l6.it K0 v).symm)
theorem impl_ycountBits_l3.it : ∀ n v, iter (evStep impl_ycountBits.E3 (bodyAt 3 f24) impl_ycountBits_l3.ent.ins impl_ycountBits_l3.ent.rts impl_ycountBits_l3.ent.hm impl_ycountBits_l3.ent.nl impl_ycountBits_l3.ent.xs) n v = impl_ycountBits_l3 n v.1 v.2.1 v.2.2.1 v.2.2.2.1 := by
 intro n
 induction n with
 | zero => intro v; rfl
 | succ n ih =>
  intro v
  show (evStep impl_ycountBits.E3 (bodyAt 3 f24) impl_ycountBits_l3.ent.ins impl_ycountBits_l3.ent.rts impl_ycountBits_l3.ent.hm impl_ycountBits_l3.ent.nl impl_ycountBits_l3.ent.xs) (iter (evStep impl_ycountBits.E3 (bodyAt 3 f24) impl_ycountBits_l3.ent.ins impl_ycountBits_l3.ent.rts impl_ycountBits_l3.ent.hm impl_ycountBits_l3.ent.nl impl_ycountBits_l3.ent.xs) n) v = _
  rw [impl_ycountBits_l3.eq, show (fun c0 c1 c2 c3 => iter (evStep impl_ycountBits.E3 (bodyAt 3 f24) impl_ycountBits_l3.ent.ins impl_ycountBits_l3.ent.rts impl_ycountBits_l3.ent.hm impl_ycountBits_l3.ent.nl impl_ycountBits_l3.ent.xs) n (c0, c1, c2, c3, ())) = impl_ycountBits_l3 n from by funext c0 c1 c2 c3; exact ih _]
  rfl
theorem impl_ycountBits_l3.fr : firstRegion (bodyAt 3 f24) = 3 := by kernel_rfl
theorem impl_ycountBits_l3.ls : loopsOf (bodyAt 3 f24) = [bodyAt 6 f24] := by kernel_rfl
theorem impl_ycountBits_l3.lok {E : Env} (hpin : impl_ycountBits.E3.pin = E.pin) (hfind : find 3 E.loops = some impl_ycountBits_l3.ent) : LoopOK Pr E (bodyAt 3 f24) :=
 loop_of (E1 := impl_ycountBits.E3) (EnvOK.of dok impl_ycountBits.fok) mixed hpin (by rw [impl_ycountBits_l3.fr]; exact hfind) impl_ycountBits_l3.ls (by intro l hl; simp only [List.mem_singleton] at hl; subst hl; exact impl_ycountBits_l6.lok rfl rfl) (fun v => (impl_ycountBits_l3.it K0 v).symm)
theorem impl_ycountBits.ls : loopsOf (bodyOf f24) = [bodyAt 3 f24, bodyAt 6 f24] := by kernel_rfl
theorem impl_ycountBits.ok : EntryOK Pr 24 impl_ycountBits.ent :=
 entry_ok (E := impl_ycountBits.E) (EnvOK.of dok impl_ycountBits.fok) mixed (fn := f24) (by kernel_rfl) (by kernel_rfl) (by decide) impl_ycountBits.ls (by
  intro l hl
  simp only [List.mem_cons, List.mem_nil_iff, or_false] at hl
  rcases hl with rfl | rfl
  · exact impl_ycountBits_l3.lok rfl rfl
  · exact impl_ycountBits_l6.lok rfl rfl) impl_ycountBits.eq
/-! ### loop.example/g00038/impl.yhasBit -/
noncomputable def impl_yhasBit.E : Env := ⟨D, [], [], []⟩
noncomputable def impl_yhasBit (a0 : ByteArray) (a1 : Int) : Option (Bool × Unit) :=
 let b1 : Bool := decide ((wrap64 (Int.tdiv a1 8)) < (a0.size : Int))
 let x2 : Int := bt a0 (wrap64 (Int.tdiv a1 8))
 let x3 : Int := shr .u8 x2 (Int.tmod a1 8)
 let b4 : Bool := ((bits .and .u8 x3 1) == 1)
 let b5 : Bool := ((decide (a1 ≥ 0) && b1) && b4)
 bif (!(decide (a1 ≥ 0)) || (!((8 : Int) == 0))) && ((!(decide (a1 ≥ 0) && b1) || (!((8 : Int) == 0))) && ((!(decide (a1 ≥ 0) && b1) || (decide (0 ≤ (wrap64 (Int.tdiv a1 8))) && decide ((wrap64 (Int.tdiv a1 8)) < (a0.size : Int)))) && ((!(decide (a1 ≥ 0) && b1) || (!((8 : Int) == 0))) && (!(decide (a1 ≥ 0) && b1) || (decide (0 ≤ (Int.tmod a1 8))))))) then
  some (b5, ())
 else none
noncomputable def impl_yhasBit.ent : Entry := ⟨[false, false], [.cell (.val .bor (.str)), .cell (.val .bor (.int .i64))], [.cell (.val .bor (.bool))], [], fun v => impl_yhasBit v.1 v.2.1⟩
theorem impl_yhasBit.eq : ∀ v, evFn impl_yhasBit.E f25 impl_yhasBit.ent.ptrs impl_yhasBit.ent.ins impl_yhasBit.ent.rets impl_yhasBit.ent.outs v = impl_yhasBit.ent.f v := by intro v; kernel_rfl
theorem impl_yhasBit.fok : ∀ q ∈ ([] : List (Nat × Entry)), EntryOK Pr q.1 q.2 := by intro q hq; simp at hq
theorem impl_yhasBit.ls : loopsOf (bodyOf f25) = [] := by kernel_rfl
theorem impl_yhasBit.ok : EntryOK Pr 25 impl_yhasBit.ent :=
 entry_ok (E := impl_yhasBit.E) (EnvOK.of dok impl_yhasBit.fok) mixed (fn := f25) (by kernel_rfl) (by kernel_rfl) (by decide) impl_yhasBit.ls (by intro l hl; simp at hl) impl_yhasBit.eq
/-! ### (loop.example/g00038/impl.JobState).ystart -/
noncomputable def impl_JobState_ystart.E10 : Env := ⟨D, [], [(20, impl_yimageAt.ent), (21, impl_ybehind.ent)], []⟩
noncomputable def impl_JobState_ystart_l10_step (rec : List V1 → Int → Int → List V1 → ByteArray → Int → Int → ByteArray → ByteArray → ByteArray → ByteArray → List Int → List ByteArray → List V2 → Option ((Int × Unit) ⊕ (List V1 × ByteArray × Int × Int × ByteArray × ByteArray × ByteArray × ByteArray × List Int × List ByteArray × List V2 × Unit))) (y0 : List V1) (y1 : Int) (y2 : Int) (y3 : List V1) (y4 : ByteArray) (y5 : Int) (y6 : Int) (y7 : ByteArray) (y8 : ByteArray) (y9 : ByteArray) (y10 : ByteArray) (y11 : List Int) (y12 : List ByteArray) (y13 : List V2) : Option ((Int × Unit) ⊕ (List V1 × ByteArray × Int × Int × ByteArray × ByteArray × ByteArray × ByteArray × List Int × List ByteArray × List V2 × Unit)) :=
 bif decide (y2 < y1) then
  let e5 : V1 := rd R1 y0 y2
  bif decide (0 ≤ y2) && decide (y2 < (y0.length : Int)) then
   let b6 : Bool := (seq e5.2.1 y10 && !seq e5.1 y9)
   bif b6 then
    some (Sum.inl (7, ()))
   else
    rec y0 y1 (wrap64 (y2 + 1)) y3 y4 y5 y6 y7 y8 y9 y10 y11 y12 y13
  else none
 else
  some (Sum.inr (y3, y4, y5, y6, y7, y8, y9, y10, y11, y12, y13, ()))
noncomputable def impl_JobState_ystart_l10 : Nat → List V1 → Int → Int → List V1 → ByteArray → Int → Int → ByteArray → ByteArray → ByteArray → ByteArray → List Int → List ByteArray → List V2 → Option ((Int × Unit) ⊕ (List V1 × ByteArray × Int × Int × ByteArray × ByteArray × ByteArray × ByteArray × List Int × List ByteArray × List V2 × Unit))
 | 0 => fun _ _ _ _ _ _ _ _ _ _ _ _ _ _ => none
 | n + 1 => impl_JobState_ystart_l10_step (impl_JobState_ystart_l10 n)
noncomputable def impl_JobState_ystart_l10.ent : LEntry := ⟨sk 2 (.cell (.fix (.ptr 2 0)) :: (sk 2 (.cell (.fix (.ptr 5 0)) :: (sk 26 (.cell (.val .bor (.slice R1)) :: (.cell (.val .bor (.int .i64)) :: (.cell (.val .bor (.int .i64)) :: (sk 79 [])))))))), rk 2 ([.val .bor (.slice R1), .val .bor (.str), .val .bor (.int .i64), .val .bor (.int .i64), .val .bor (.str), .val .bor (.str)] :: (rk 2 ([.val .bor (.str), .val .bor (.str), .val .bor (.slice (.int .i64)), .val .bor (.slice (.str)), .val .bor (.slice R2)] :: (rk 108 [])))), [], [], [⟨none, sk 4 (.cell (.val .bor (.int .i64)) :: (sk 109 [])), rk 114 [], [], []⟩, ⟨some 1, sk 2 (.cell (.fix (.ptr 2 0)) :: (sk 2 (.cell (.fix (.ptr 5 0)) :: (sk 108 [])))), rk 2 ([.val .bor (.slice R1), .val .bor (.str), .val .bor (.int .i64), .val .bor (.int .i64), .val .bor (.str), .val .bor (.str)] :: (rk 2 ([.val .bor (.str), .val .bor (.str), .val .bor (.slice (.int .i64)), .val .bor (.slice (.str)), .val .bor (.slice R2)] :: (rk 108 [])))), [], []⟩], fun v => impl_JobState_ystart_l10 K0 v.1 v.2.1 v.2.2.1 v.2.2.2.1 v.2.2.2.2.1 v.2.2.2.2.2.1 v.2.2.2.2.2.2.1 v.2.2.2.2.2.2.2.1 v.2.2.2.2.2.2.2.2.1 v.2.2.2.2.2.2.2.2.2.1 v.2.2.2.2.2.2.2.2.2.2.1 v.2.2.2.2.2.2.2.2.2.2.2.1 v.2.2.2.2.2.2.2.2.2.2.2.2.1 v.2.2.2.2.2.2.2.2.2.2.2.2.2.1⟩
theorem impl_JobState_ystart_l10.eq : ∀ rec v, evStep impl_JobState_ystart.E10 (bodyAt 10 f26) impl_JobState_ystart_l10.ent.ins impl_JobState_ystart_l10.ent.rts impl_JobState_ystart_l10.ent.hm impl_JobState_ystart_l10.ent.nl impl_JobState_ystart_l10.ent.xs rec v = impl_JobState_ystart_l10_step (fun c0 c1 c2 c3 c4 c5 c6 c7 c8 c9 c10 c11 c12 c13 => rec (c0, c1, c2, c3, c4, c5, c6, c7, c8, c9, c10, c11, c12, c13, ())) v.1 v.2.1 v.2.2.1 v.2.2.2.1 v.2.2.2.2.1 v.2.2.2.2.2.1 v.2.2.2.2.2.2.1 v.2.2.2.2.2.2.2.1 v.2.2.2.2.2.2.2.2.1 v.2.2.2.2.2.2.2.2.2.1 v.2.2.2.2.2.2.2.2.2.2.1 v.2.2.2.2.2.2.2.2.2.2.2.1 v.2.2.2.2.2.2.2.2.2.2.2.2.1 v.2.2.2.2.2.2.2.2.2.2.2.2.2.1 := by intro rec v; kernel_rfl
noncomputable def impl_JobState_ystart.E : Env := ⟨D, [], [(20, impl_yimageAt.ent), (21, impl_ybehind.ent)], [(10, impl_JobState_ystart_l10.ent)]⟩
noncomputable def impl_JobState_ystart (a0 : List V1) (a1 : ByteArray) (a2 : Int) (a3 : Int) (a4 : ByteArray) (a5 : ByteArray) (a6 : Int) (a7 : Int) (a8 : ByteArray) (a9 : ByteArray) : Option (Int × Unit) :=
 (impl_yimageAt a0 a1).bind fun r1 =>
 let e2 : V1 := rd R1 a0 r1.1
 bif decide (0 ≤ r1.1) && decide (r1.1 < (a0.length : Int)) then
  bif (a6 == 1) then
   let b3 : Bool := seq e2.2.1 (⟨#[]⟩ : ByteArray)
   bif b3 then
    some (5, ())
   else
    some (0, ())
  else
  bif (a6 == 2) then
   let b4 : Bool := seq e2.2.1 (⟨#[]⟩ : ByteArray)
   bif b4 then
    some (5, ())
   else
    (impl_JobState_ystart_l10 K0 a0 (a0.length : Int) 0 a0 a1 a2 a3 a4 a5 e2.1 e2.2.1 e2.2.2.1 e2.2.2.2.1 e2.2.2.2.2).bind fun o7 =>
    match o7 with
    | Sum.inl p8 =>
     some (p8.1, ())
    | Sum.inr p9 =>
     let b10 : Bool := decide ((p9.2.2.2.2.2.2.2.2.2.2.1.length : Int) > 0)
     bif b10 then
      some (7, ())
     else
      (impl_yimageAt p9.1 p9.2.2.2.2.2.2.2.1).bind fun r11 =>
      let e12 : V1 := rd R1 p9.1 r11.1
      let b13 : Bool := decide ((e12.2.2.1.length : Int) < (p9.2.2.2.2.2.2.2.2.1.length : Int))
      bif decide (0 ≤ r11.1) && decide (r11.1 < (p9.1.length : Int)) then
       bif b13 then
        some (2, ())
       else
        some (0, ())
      else none
  else
  bif (a6 == 3) then
   (impl_yimageAt a0 a9).bind fun r14 =>
   let b15 : Bool := (decide (r14.1 < 0) || seq a9 a1)
   bif b15 then
    some (5, ())
   else
    let e16 : V1 := rd R1 a0 r14.1
    bif decide (0 ≤ r14.1) && decide (r14.1 < (a0.length : Int)) then
     (impl_ybehind a0 a9).bind fun r17 =>
     let b18 : Bool := !seq e16.2.1 (⟨#[]⟩ : ByteArray)
     let b19 : Bool := decide ((e16.2.2.2.2.length : Int) > 0)
     bif ((r17.1 || b18) || b19) then
      some (7, ())
     else
      let b20 : Bool := ((e16.2.2.1.length : Int) != (e2.2.2.1.length : Int))
      bif b20 then
       some (2, ())
      else
       some (0, ())
    else none
  else
   some (0, ())
 else none
noncomputable def impl_JobState_ystart.ent : Entry := ⟨[false, false], [.agg [.val .bor (.slice R1), .val .bor (.str), .val .bor (.int .i64), .val .bor (.int .i64), .val .bor (.str), .val .bor (.str)], .agg [.val .bor (.int .i64), .val .bor (.int .i64), .val .bor (.str), .val .bor (.str)]], [.cell (.val .bor (.int .i64))], [], fun v => impl_JobState_ystart v.1 v.2.1 v.2.2.1 v.2.2.2.1 v.2.2.2.2.1 v.2.2.2.2.2.1 v.2.2.2.2.2.2.1 v.2.2.2.2.2.2.2.1 v.2.2.2.2.2.2.2.2.1 v.2.2.2.2.2.2.2.2.2.1⟩
theorem impl_JobState_ystart.eq : ∀ v, evFn impl_JobState_ystart.E f26 impl_JobState_ystart.ent.ptrs impl_JobState_ystart.ent.ins impl_JobState_ystart.ent.rets impl_JobState_ystart.ent.outs v = impl_JobState_ystart.ent.f v := by intro v; kernel_rfl
theorem impl_JobState_ystart.fok : ∀ q ∈ [((20 : Nat), impl_yimageAt.ent), ((21 : Nat), impl_ybehind.ent)], EntryOK Pr q.1 q.2 := by
 intro q hq
 simp only [List.mem_cons, List.mem_nil_iff, or_false] at hq
 rcases hq with rfl | rfl
 · exact impl_yimageAt.ok
 · exact impl_ybehind.ok
theorem impl_JobState_ystart_l10.it : ∀ n v, iter (evStep impl_JobState_ystart.E10 (bodyAt 10 f26) impl_JobState_ystart_l10.ent.ins impl_JobState_ystart_l10.ent.rts impl_JobState_ystart_l10.ent.hm impl_JobState_ystart_l10.ent.nl impl_JobState_ystart_l10.ent.xs) n v = impl_JobState_ystart_l10 n v.1 v.2.1 v.2.2.1 v.2.2.2.1 v.2.2.2.2.1 v.2.2.2.2.2.1 v.2.2.2.2.2.2.1 v.2.2.2.2.2.2.2.1 v.2.2.2.2.2.2.2.2.1 v.2.2.2.2.2.2.2.2.2.1 v.2.2.2.2.2.2.2.2.2.2.1 v.2.2.2.2.2.2.2.2.2.2.2.1 v.2.2.2.2.2.2.2.2.2.2.2.2.1 v.2.2.2.2.2.2.2.2.2.2.2.2.2.1 := by
 intro n
 induction n with
 | zero => intro v; rfl
 | succ n ih =>
  intro v
  show (evStep impl_JobState_ystart.E10 (bodyAt 10 f26) impl_JobState_ystart_l10.ent.ins impl_JobState_ystart_l10.ent.rts impl_JobState_ystart_l10.ent.hm impl_JobState_ystart_l10.ent.nl impl_JobState_ystart_l10.ent.xs) (iter (evStep impl_JobState_ystart.E10 (bodyAt 10 f26) impl_JobState_ystart_l10.ent.ins impl_JobState_ystart_l10.ent.rts impl_JobState_ystart_l10.ent.hm impl_JobState_ystart_l10.ent.nl impl_JobState_ystart_l10.ent.xs) n) v = _
  rw [impl_JobState_ystart_l10.eq, show (fun c0 c1 c2 c3 c4 c5 c6 c7 c8 c9 c10 c11 c12 c13 => iter (evStep impl_JobState_ystart.E10 (bodyAt 10 f26) impl_JobState_ystart_l10.ent.ins impl_JobState_ystart_l10.ent.rts impl_JobState_ystart_l10.ent.hm impl_JobState_ystart_l10.ent.nl impl_JobState_ystart_l10.ent.xs) n (c0, c1, c2, c3, c4, c5, c6, c7, c8, c9, c10, c11, c12, c13, ())) = impl_JobState_ystart_l10 n from by funext c0 c1 c2 c3 c4 c5 c6 c7 c8 c9 c10 c11 c12 c13; exact ih _]
  rfl
theorem impl_JobState_ystart_l10.fr : firstRegion (bodyAt 10 f26) = 10 := by kernel_rfl
theorem impl_JobState_ystart_l10.ls : loopsOf (bodyAt 10 f26) = [] := by kernel_rfl
theorem impl_JobState_ystart_l10.lok {E : Env} (hpin : impl_JobState_ystart.E10.pin = E.pin) (hfind : find 10 E.loops = some impl_JobState_ystart_l10.ent) : LoopOK Pr E (bodyAt 10 f26) :=
 loop_of (E1 := impl_JobState_ystart.E10) (EnvOK.of dok impl_JobState_ystart.fok) mixed hpin (by rw [impl_JobState_ystart_l10.fr]; exact hfind) impl_JobState_ystart_l10.ls (by intro l hl; simp at hl) (fun v => (impl_JobState_ystart_l10.it K0 v).symm)
theorem impl_JobState_ystart.ls : loopsOf (bodyOf f26) = [bodyAt 10 f26] := by kernel_rfl
theorem impl_JobState_ystart.ok : EntryOK Pr 26 impl_JobState_ystart.ent :=
 entry_ok (E := impl_JobState_ystart.E) (EnvOK.of dok impl_JobState_ystart.fok) mixed (fn := f26) (by kernel_rfl) (by kernel_rfl) (by decide) impl_JobState_ystart.ls (by intro l hl; simp only [List.mem_singleton] at hl; subst hl; exact impl_JobState_ystart_l10.lok rfl rfl) impl_JobState_ystart.eq
/-! ### loop.example/g00038/impl.JobFault -/
noncomputable def impl_JobFault.E13 : Env := ⟨D, [], [(19, impl_ChainFault.ent), (20, impl_yimageAt.ent), (21, impl_ybehind.ent), (22, impl_Job_ytarget.ent), (23, impl_yin.ent), (24, impl_ycountBits.ent), (25, impl_yhasBit.ent), (26, impl_JobState_ystart.ent)], []⟩
noncomputable def impl_JobFault_l13_step (rec : Int → List V1 → ByteArray → Int → Int → ByteArray → ByteArray → Int → Int → ByteArray → ByteArray → Option ((Int × Unit) ⊕ (List V1 × ByteArray × Int × Int × ByteArray × ByteArray × Int × Int × ByteArray × ByteArray × Unit))) (y0 : Int) (y1 : List V1) (y2 : ByteArray) (y3 : Int) (y4 : Int) (y5 : ByteArray) (y6 : ByteArray) (y7 : Int) (y8 : Int) (y9 : ByteArray) (y10 : ByteArray) : Option ((Int × Unit) ⊕ (List V1 × ByteArray × Int × Int × ByteArray × ByteArray × Int × Int × ByteArray × ByteArray × Unit)) :=
 bif decide (y0 < 64) then
  (impl_yhasBit y9 y0).bind fun r13 =>
  bif r13.1 then
   some (Sum.inl (1, ()))
  else
   rec (wrap64 (y0 + 1)) y1 y2 y3 y4 y5 y6 y7 y8 y9 y10
 else
  some (Sum.inr (y1, y2, y3, y4, y5, y6, y7, y8, y9, y10, ()))
noncomputable def impl_JobFault_l13 : Nat → Int → List V1 → ByteArray → Int → Int → ByteArray → ByteArray → Int → Int → ByteArray → ByteArray → Option ((Int × Unit) ⊕ (List V1 × ByteArray × Int × Int × ByteArray × ByteArray × Int × Int × ByteArray × ByteArray × Unit))
 | 0 => fun _ _ _ _ _ _ _ _ _ _ _ => none
 | n + 1 => impl_JobFault_l13_step (impl_JobFault_l13 n)
noncomputable def impl_JobFault_l13.ent : LEntry := ⟨sk 1 (.cell (.fix (.ptr 1 0)) :: (sk 2 (.cell (.fix (.ptr 4 0)) :: (sk 1 (.cell (.val .bor (.int .i64)) :: (sk 71 [])))))), rk 1 ([.val .bor (.slice R1), .val .bor (.str), .val .bor (.int .i64), .val .bor (.int .i64), .val .bor (.str), .val .bor (.str)] :: (rk 2 ([.val .bor (.int .i64), .val .bor (.int .i64), .val .bor (.str), .val .bor (.str)] :: (rk 73 [])))), [], [], [⟨none, sk 2 (.cell (.val .bor (.int .i64)) :: (sk 75 [])), rk 78 [], [], []⟩, ⟨some 0, sk 1 (.cell (.fix (.ptr 1 0)) :: (sk 2 (.cell (.fix (.ptr 4 0)) :: (sk 73 [])))), rk 1 ([.val .bor (.slice R1), .val .bor (.str), .val .bor (.int .i64), .val .bor (.int .i64), .val .bor (.str), .val .bor (.str)] :: (rk 2 ([.val .bor (.int .i64), .val .bor (.int .i64), .val .bor (.str), .val .bor (.str)] :: (rk 73 [])))), [], []⟩], fun v => impl_JobFault_l13 K0 v.1 v.2.1 v.2.2.1 v.2.2.2.1 v.2.2.2.2.1 v.2.2.2.2.2.1 v.2.2.2.2.2.2.1 v.2.2.2.2.2.2.2.1 v.2.2.2.2.2.2.2.2.1 v.2.2.2.2.2.2.2.2.2.1 v.2.2.2.2.2.2.2.2.2.2.1⟩
theorem impl_JobFault_l13.eq : ∀ rec v, evStep impl_JobFault.E13 (bodyAt 13 f7) impl_JobFault_l13.ent.ins impl_JobFault_l13.ent.rts impl_JobFault_l13.ent.hm impl_JobFault_l13.ent.nl impl_JobFault_l13.ent.xs rec v = impl_JobFault_l13_step (fun c0 c1 c2 c3 c4 c5 c6 c7 c8 c9 c10 => rec (c0, c1, c2, c3, c4, c5, c6, c7, c8, c9, c10, ())) v.1 v.2.1 v.2.2.1 v.2.2.2.1 v.2.2.2.2.1 v.2.2.2.2.2.1 v.2.2.2.2.2.2.1 v.2.2.2.2.2.2.2.1 v.2.2.2.2.2.2.2.2.1 v.2.2.2.2.2.2.2.2.2.1 v.2.2.2.2.2.2.2.2.2.2.1 := by intro rec v; kernel_rfl
noncomputable def impl_JobFault.E : Env := ⟨D, [], [(19, impl_ChainFault.ent), (20, impl_yimageAt.ent), (21, impl_ybehind.ent), (22, impl_Job_ytarget.ent), (23, impl_yin.ent), (24, impl_ycountBits.ent), (25, impl_yhasBit.ent), (26, impl_JobState_ystart.ent)], [(13, impl_JobFault_l13.ent)]⟩
noncomputable def impl_JobFault (a0 : List V1) (a1 : ByteArray) (a2 : Int) (a3 : Int) (a4 : ByteArray) (a5 : ByteArray) : Option (Int × Unit) :=
 (impl_ChainFault a0).bind fun r1 =>
 bif (r1.1 != 0) then
  some (1, ())
 else
  (impl_yimageAt a0 a1).bind fun r2 =>
  let r3 : Bool × Unit := (impl_ybehind a0 a1).getD (false, ())
  let b4 : Bool := (decide (r2.1 < 0) || r3.1)
  bif (!(!(decide (r2.1 < 0))) || ((impl_ybehind a0 a1).isSome)) then
   bif b4 then
    some (1, ())
   else
    let b5 : Bool := ((a2 == 0) && ((a3 == 0) && (seq a4 ByteArray.empty && seq a5 ByteArray.empty)))
    bif b5 then
     some (0, ())
    else
     let e6 : V1 := rd R1 a0 r2.1
     bif decide (0 ≤ r2.1) && decide (r2.1 < (a0.length : Int)) then
      (impl_Job_ytarget a2 a3 a4 a5).bind fun r7 =>
      let r8 : Bool × Unit := (impl_yin a3 0 (e6.2.2.1.length : Int)).getD (false, ())
      let b9 : Bool := decide ((a4.size : Int) > 8)
      let r10 : Int × Unit := (impl_ycountBits a4).getD (0, ())
      let b11 : Bool := ((a2 == 1) && decide (r10.1 > 0))
      let b12 : Bool := (((!r7.1 || !r8.1) || b9) || b11)
      bif (!(!(!r7.1)) || ((impl_yin a3 0 (e6.2.2.1.length : Int)).isSome)) && (!(!((!r7.1 || !r8.1) || b9)) || (!(a2 == 1) || ((impl_ycountBits a4).isSome))) then
       bif b12 then
        some (1, ())
       else
        (impl_JobFault_l13 K0 a3 a0 a1 a2 a3 a4 a5 a2 a3 a4 a5).bind fun o14 =>
        match o14 with
        | Sum.inl p15 =>
         some (p15.1, ())
        | Sum.inr p16 =>
         (impl_JobState_ystart p16.1 p16.2.1 p16.2.2.1 p16.2.2.2.1 p16.2.2.2.2.1 p16.2.2.2.2.2.1 p16.2.2.2.2.2.2.1 p16.2.2.2.2.2.2.2.1 p16.2.2.2.2.2.2.2.2.1 p16.2.2.2.2.2.2.2.2.2.1).bind fun r17 =>
         bif (r17.1 != 0) then
          some (1, ())
         else
          some (0, ())
      else none
     else none
  else none
noncomputable def impl_JobFault.ent : Entry := ⟨[false], [.agg [.val .bor (.slice R1), .val .bor (.str), .val .bor (.int .i64), .val .bor (.int .i64), .val .bor (.str), .val .bor (.str)]], [.cell (.val .bor (.int .i64))], [], fun v => impl_JobFault v.1 v.2.1 v.2.2.1 v.2.2.2.1 v.2.2.2.2.1 v.2.2.2.2.2.1⟩
theorem impl_JobFault.eq : ∀ v, evFn impl_JobFault.E f7 impl_JobFault.ent.ptrs impl_JobFault.ent.ins impl_JobFault.ent.rets impl_JobFault.ent.outs v = impl_JobFault.ent.f v := by intro v; kernel_rfl
theorem impl_JobFault.fok : ∀ q ∈ [((19 : Nat), impl_ChainFault.ent), ((20 : Nat), impl_yimageAt.ent), ((21 : Nat), impl_ybehind.ent), ((22 : Nat), impl_Job_ytarget.ent), ((23 : Nat), impl_yin.ent), ((24 : Nat), impl_ycountBits.ent), ((25 : Nat), impl_yhasBit.ent), ((26 : Nat), impl_JobState_ystart.ent)], EntryOK Pr q.1 q.2 := by
 intro q hq
 simp only [List.mem_cons, List.mem_nil_iff, or_false] at hq
 rcases hq with rfl | rfl | rfl | rfl | rfl | rfl | rfl | rfl
 · exact impl_ChainFault.ok
 · exact impl_yimageAt.ok
 · exact impl_ybehind.ok
 · exact impl_Job_ytarget.ok
 · exact impl_yin.ok
 · exact impl_ycountBits.ok
 · exact impl_yhasBit.ok
 · exact impl_JobState_ystart.ok
theorem impl_JobFault_l13.it : ∀ n v, iter (evStep impl_JobFault.E13 (bodyAt 13 f7) impl_JobFault_l13.ent.ins impl_JobFault_l13.ent.rts impl_JobFault_l13.ent.hm impl_JobFault_l13.ent.nl impl_JobFault_l13.ent.xs) n v = impl_JobFault_l13 n v.1 v.2.1 v.2.2.1 v.2.2.2.1 v.2.2.2.2.1 v.2.2.2.2.2.1 v.2.2.2.2.2.2.1 v.2.2.2.2.2.2.2.1 v.2.2.2.2.2.2.2.2.1 v.2.2.2.2.2.2.2.2.2.1 v.2.2.2.2.2.2.2.2.2.2.1 := by
 intro n
 induction n with
 | zero => intro v; rfl
 | succ n ih =>
  intro v
  show (evStep impl_JobFault.E13 (bodyAt 13 f7) impl_JobFault_l13.ent.ins impl_JobFault_l13.ent.rts impl_JobFault_l13.ent.hm impl_JobFault_l13.ent.nl impl_JobFault_l13.ent.xs) (iter (evStep impl_JobFault.E13 (bodyAt 13 f7) impl_JobFault_l13.ent.ins impl_JobFault_l13.ent.rts impl_JobFault_l13.ent.hm impl_JobFault_l13.ent.nl impl_JobFault_l13.ent.xs) n) v = _
  rw [impl_JobFault_l13.eq, show (fun c0 c1 c2 c3 c4 c5 c6 c7 c8 c9 c10 => iter (evStep impl_JobFault.E13 (bodyAt 13 f7) impl_JobFault_l13.ent.ins impl_JobFault_l13.ent.rts impl_JobFault_l13.ent.hm impl_JobFault_l13.ent.nl impl_JobFault_l13.ent.xs) n (c0, c1, c2, c3, c4, c5, c6, c7, c8, c9, c10, ())) = impl_JobFault_l13 n from by funext c0 c1 c2 c3 c4 c5 c6 c7 c8 c9 c10; exact ih _]
  rfl
theorem impl_JobFault_l13.fr : firstRegion (bodyAt 13 f7) = 13 := by kernel_rfl
theorem impl_JobFault_l13.ls : loopsOf (bodyAt 13 f7) = [] := by kernel_rfl
theorem impl_JobFault_l13.lok {E : Env} (hpin : impl_JobFault.E13.pin = E.pin) (hfind : find 13 E.loops = some impl_JobFault_l13.ent) : LoopOK Pr E (bodyAt 13 f7) :=
 loop_of (E1 := impl_JobFault.E13) (EnvOK.of dok impl_JobFault.fok) mixed hpin (by rw [impl_JobFault_l13.fr]; exact hfind) impl_JobFault_l13.ls (by intro l hl; simp at hl) (fun v => (impl_JobFault_l13.it K0 v).symm)
theorem impl_JobFault.ls : loopsOf (bodyOf f7) = [bodyAt 13 f7] := by kernel_rfl
theorem impl_JobFault.ok : EntryOK Pr 7 impl_JobFault.ent :=
 entry_ok (E := impl_JobFault.E) (EnvOK.of dok impl_JobFault.fok) mixed (fn := f7) (by kernel_rfl) (by kernel_rfl) (by decide) impl_JobFault.ls (by intro l hl; simp only [List.mem_singleton] at hl; subst hl; exact impl_JobFault_l13.lok rfl rfl) impl_JobFault.eq
/-! ### loop.example/g00038/laws.eqInt64S -/
noncomputable def laws_eqInt64S.E4 : Env := ⟨D, [], [], []⟩
noncomputable def laws_eqInt64S_l4_step (rec : List Int → List Int → Int → Option ((Bool × Unit) ⊕ (Unit))) (y0 : List Int) (y1 : List Int) (y2 : Int) : Option ((Bool × Unit) ⊕ (Unit)) :=
 let b2 : Bool := decide (y2 < (y0.length : Int))
 bif b2 then
  let b3 : Bool := ((rd (.int .i64) y0 y2) != (rd (.int .i64) y1 y2))
  bif (decide (0 ≤ y2) && decide (y2 < (y0.length : Int))) && (decide (0 ≤ y2) && decide (y2 < (y1.length : Int))) then
   bif b3 then
    some (Sum.inl (false, ()))
   else
    rec y0 y1 (wrap64 (y2 + 1))
  else none
 else
  some (Sum.inr ())
noncomputable def laws_eqInt64S_l4 : Nat → List Int → List Int → Int → Option ((Bool × Unit) ⊕ (Unit))
 | 0 => fun _ _ _ => none
 | n + 1 => laws_eqInt64S_l4_step (laws_eqInt64S_l4 n)
noncomputable def laws_eqInt64S_l4.ent : LEntry := ⟨(.cell (.val .bor (.slice (.int .i64))) :: (.cell (.val .bor (.slice (.int .i64))) :: (sk 3 (.cell (.val .bor (.int .i64)) :: (sk 20 []))))), rk 26 [], [], [], [⟨none, sk 4 (.cell (.val .bor (.bool)) :: (sk 21 [])), rk 26 [], [], []⟩, ⟨some 0, sk 26 [], rk 26 [], [], []⟩], fun v => laws_eqInt64S_l4 K0 v.1 v.2.1 v.2.2.1⟩
theorem laws_eqInt64S_l4.eq : ∀ rec v, evStep laws_eqInt64S.E4 (bodyAt 4 f54) laws_eqInt64S_l4.ent.ins laws_eqInt64S_l4.ent.rts laws_eqInt64S_l4.ent.hm laws_eqInt64S_l4.ent.nl laws_eqInt64S_l4.ent.xs rec v = laws_eqInt64S_l4_step (fun c0 c1 c2 => rec (c0, c1, c2, ())) v.1 v.2.1 v.2.2.1 := by intro rec v; kernel_rfl
noncomputable def laws_eqInt64S.E : Env := ⟨D, [], [], [(4, laws_eqInt64S_l4.ent)]⟩
noncomputable def laws_eqInt64S (a0 : List Int) (a1 : List Int) : Option (Bool × Unit) :=
 let b1 : Bool := ((a0.length : Int) != (a1.length : Int))
 bif b1 then
  some (false, ())
 else
  (laws_eqInt64S_l4 K0 a0 a1 0).bind fun o4 =>
  match o4 with
  | Sum.inl p5 =>
   some (p5.1, ())
  | Sum.inr p6 =>
   some (true, ())
noncomputable def laws_eqInt64S.ent : Entry := ⟨[false, false], [.cell (.val .bor (.slice (.int .i64))), .cell (.val .bor (.slice (.int .i64)))], [.cell (.val .bor (.bool))], [], fun v => laws_eqInt64S v.1 v.2.1⟩
theorem laws_eqInt64S.eq : ∀ v, evFn laws_eqInt64S.E f54 laws_eqInt64S.ent.ptrs laws_eqInt64S.ent.ins laws_eqInt64S.ent.rets laws_eqInt64S.ent.outs v = laws_eqInt64S.ent.f v := by intro v; kernel_rfl
theorem laws_eqInt64S.fok : ∀ q ∈ ([] : List (Nat × Entry)), EntryOK Pr q.1 q.2 := by intro q hq; simp at hq
theorem laws_eqInt64S_l4.it : ∀ n v, iter (evStep laws_eqInt64S.E4 (bodyAt 4 f54) laws_eqInt64S_l4.ent.ins laws_eqInt64S_l4.ent.rts laws_eqInt64S_l4.ent.hm laws_eqInt64S_l4.ent.nl laws_eqInt64S_l4.ent.xs) n v = laws_eqInt64S_l4 n v.1 v.2.1 v.2.2.1 := by
 intro n
 induction n with
 | zero => intro v; rfl
 | succ n ih =>
  intro v
  show (evStep laws_eqInt64S.E4 (bodyAt 4 f54) laws_eqInt64S_l4.ent.ins laws_eqInt64S_l4.ent.rts laws_eqInt64S_l4.ent.hm laws_eqInt64S_l4.ent.nl laws_eqInt64S_l4.ent.xs) (iter (evStep laws_eqInt64S.E4 (bodyAt 4 f54) laws_eqInt64S_l4.ent.ins laws_eqInt64S_l4.ent.rts laws_eqInt64S_l4.ent.hm laws_eqInt64S_l4.ent.nl laws_eqInt64S_l4.ent.xs) n) v = _
  rw [laws_eqInt64S_l4.eq, show (fun c0 c1 c2 => iter (evStep laws_eqInt64S.E4 (bodyAt 4 f54) laws_eqInt64S_l4.ent.ins laws_eqInt64S_l4.ent.rts laws_eqInt64S_l4.ent.hm laws_eqInt64S_l4.ent.nl laws_eqInt64S_l4.ent.xs) n (c0, c1, c2, ())) = laws_eqInt64S_l4 n from by funext c0 c1 c2; exact ih _]
  rfl
theorem laws_eqInt64S_l4.fr : firstRegion (bodyAt 4 f54) = 4 := by kernel_rfl
theorem laws_eqInt64S_l4.ls : loopsOf (bodyAt 4 f54) = [] := by kernel_rfl
theorem laws_eqInt64S_l4.lok {E : Env} (hpin : laws_eqInt64S.E4.pin = E.pin) (hfind : find 4 E.loops = some laws_eqInt64S_l4.ent) : LoopOK Pr E (bodyAt 4 f54) :=
 loop_of (E1 := laws_eqInt64S.E4) (EnvOK.of dok laws_eqInt64S.fok) mixed hpin (by rw [laws_eqInt64S_l4.fr]; exact hfind) laws_eqInt64S_l4.ls (by intro l hl; simp at hl) (fun v => (laws_eqInt64S_l4.it K0 v).symm)
theorem laws_eqInt64S.ls : loopsOf (bodyOf f54) = [bodyAt 4 f54] := by kernel_rfl
theorem laws_eqInt64S.ok : EntryOK Pr 54 laws_eqInt64S.ent :=
 entry_ok (E := laws_eqInt64S.E) (EnvOK.of dok laws_eqInt64S.fok) mixed (fn := f54) (by kernel_rfl) (by kernel_rfl) (by decide) laws_eqInt64S.ls (by intro l hl; simp only [List.mem_singleton] at hl; subst hl; exact laws_eqInt64S_l4.lok rfl rfl) laws_eqInt64S.eq
/-! ### loop.example/g00038/laws.eqStringS -/
noncomputable def laws_eqStringS.E4 : Env := ⟨D, [], [], []⟩
noncomputable def laws_eqStringS_l4_step (rec : List ByteArray → List ByteArray → Int → Option ((Bool × Unit) ⊕ (Unit))) (y0 : List ByteArray) (y1 : List ByteArray) (y2 : Int) : Option ((Bool × Unit) ⊕ (Unit)) :=
 let b2 : Bool := decide (y2 < (y0.length : Int))
 bif b2 then
  let b3 : Bool := !seq (rd (.str) y0 y2) (rd (.str) y1 y2)
  bif (decide (0 ≤ y2) && decide (y2 < (y0.length : Int))) && (decide (0 ≤ y2) && decide (y2 < (y1.length : Int))) then
   bif b3 then
    some (Sum.inl (false, ()))
   else
    rec y0 y1 (wrap64 (y2 + 1))
  else none
 else
  some (Sum.inr ())
noncomputable def laws_eqStringS_l4 : Nat → List ByteArray → List ByteArray → Int → Option ((Bool × Unit) ⊕ (Unit))
 | 0 => fun _ _ _ => none
 | n + 1 => laws_eqStringS_l4_step (laws_eqStringS_l4 n)
noncomputable def laws_eqStringS_l4.ent : LEntry := ⟨(.cell (.val .bor (.slice (.str))) :: (.cell (.val .bor (.slice (.str))) :: (sk 3 (.cell (.val .bor (.int .i64)) :: (sk 20 []))))), rk 26 [], [], [], [⟨none, sk 4 (.cell (.val .bor (.bool)) :: (sk 21 [])), rk 26 [], [], []⟩, ⟨some 0, sk 26 [], rk 26 [], [], []⟩], fun v => laws_eqStringS_l4 K0 v.1 v.2.1 v.2.2.1⟩
theorem laws_eqStringS_l4.eq : ∀ rec v, evStep laws_eqStringS.E4 (bodyAt 4 f55) laws_eqStringS_l4.ent.ins laws_eqStringS_l4.ent.rts laws_eqStringS_l4.ent.hm laws_eqStringS_l4.ent.nl laws_eqStringS_l4.ent.xs rec v = laws_eqStringS_l4_step (fun c0 c1 c2 => rec (c0, c1, c2, ())) v.1 v.2.1 v.2.2.1 := by intro rec v; kernel_rfl
noncomputable def laws_eqStringS.E : Env := ⟨D, [], [], [(4, laws_eqStringS_l4.ent)]⟩
noncomputable def laws_eqStringS (a0 : List ByteArray) (a1 : List ByteArray) : Option (Bool × Unit) :=
 let b1 : Bool := ((a0.length : Int) != (a1.length : Int))
 bif b1 then
  some (false, ())
 else
  (laws_eqStringS_l4 K0 a0 a1 0).bind fun o4 =>
  match o4 with
  | Sum.inl p5 =>
   some (p5.1, ())
  | Sum.inr p6 =>
   some (true, ())
noncomputable def laws_eqStringS.ent : Entry := ⟨[false, false], [.cell (.val .bor (.slice (.str))), .cell (.val .bor (.slice (.str)))], [.cell (.val .bor (.bool))], [], fun v => laws_eqStringS v.1 v.2.1⟩
theorem laws_eqStringS.eq : ∀ v, evFn laws_eqStringS.E f55 laws_eqStringS.ent.ptrs laws_eqStringS.ent.ins laws_eqStringS.ent.rets laws_eqStringS.ent.outs v = laws_eqStringS.ent.f v := by intro v; kernel_rfl
theorem laws_eqStringS.fok : ∀ q ∈ ([] : List (Nat × Entry)), EntryOK Pr q.1 q.2 := by intro q hq; simp at hq
theorem laws_eqStringS_l4.it : ∀ n v, iter (evStep laws_eqStringS.E4 (bodyAt 4 f55) laws_eqStringS_l4.ent.ins laws_eqStringS_l4.ent.rts laws_eqStringS_l4.ent.hm laws_eqStringS_l4.ent.nl laws_eqStringS_l4.ent.xs) n v = laws_eqStringS_l4 n v.1 v.2.1 v.2.2.1 := by
 intro n
 induction n with
 | zero => intro v; rfl
 | succ n ih =>
  intro v
  show (evStep laws_eqStringS.E4 (bodyAt 4 f55) laws_eqStringS_l4.ent.ins laws_eqStringS_l4.ent.rts laws_eqStringS_l4.ent.hm laws_eqStringS_l4.ent.nl laws_eqStringS_l4.ent.xs) (iter (evStep laws_eqStringS.E4 (bodyAt 4 f55) laws_eqStringS_l4.ent.ins laws_eqStringS_l4.ent.rts laws_eqStringS_l4.ent.hm laws_eqStringS_l4.ent.nl laws_eqStringS_l4.ent.xs) n) v = _
  rw [laws_eqStringS_l4.eq, show (fun c0 c1 c2 => iter (evStep laws_eqStringS.E4 (bodyAt 4 f55) laws_eqStringS_l4.ent.ins laws_eqStringS_l4.ent.rts laws_eqStringS_l4.ent.hm laws_eqStringS_l4.ent.nl laws_eqStringS_l4.ent.xs) n (c0, c1, c2, ())) = laws_eqStringS_l4 n from by funext c0 c1 c2; exact ih _]
  rfl
theorem laws_eqStringS_l4.fr : firstRegion (bodyAt 4 f55) = 4 := by kernel_rfl
theorem laws_eqStringS_l4.ls : loopsOf (bodyAt 4 f55) = [] := by kernel_rfl
theorem laws_eqStringS_l4.lok {E : Env} (hpin : laws_eqStringS.E4.pin = E.pin) (hfind : find 4 E.loops = some laws_eqStringS_l4.ent) : LoopOK Pr E (bodyAt 4 f55) :=
 loop_of (E1 := laws_eqStringS.E4) (EnvOK.of dok laws_eqStringS.fok) mixed hpin (by rw [laws_eqStringS_l4.fr]; exact hfind) laws_eqStringS_l4.ls (by intro l hl; simp at hl) (fun v => (laws_eqStringS_l4.it K0 v).symm)
theorem laws_eqStringS.ls : loopsOf (bodyOf f55) = [bodyAt 4 f55] := by kernel_rfl
theorem laws_eqStringS.ok : EntryOK Pr 55 laws_eqStringS.ent :=
 entry_ok (E := laws_eqStringS.E) (EnvOK.of dok laws_eqStringS.fok) mixed (fn := f55) (by kernel_rfl) (by kernel_rfl) (by decide) laws_eqStringS.ls (by intro l hl; simp only [List.mem_singleton] at hl; subst hl; exact laws_eqStringS_l4.lok rfl rfl) laws_eqStringS.eq
/-! ### loop.example/g00038/laws.eqSnap -/
noncomputable def laws_eqSnap.E : Env := ⟨D, [], [(54, laws_eqInt64S.ent)], []⟩
noncomputable def laws_eqSnap (a0 : ByteArray) (a1 : List Int) (a2 : ByteArray) (a3 : List Int) : Option (Bool × Unit) :=
 bif !seq a0 a2 then
  some (false, ())
 else
  (laws_eqInt64S a1 a3).bind fun r1 =>
  bif !r1.1 then
   some (false, ())
  else
   some (true, ())
noncomputable def laws_eqSnap.ent : Entry := ⟨[false, false], [.agg [.val .bor (.str), .val .bor (.slice (.int .i64))], .agg [.val .bor (.str), .val .bor (.slice (.int .i64))]], [.cell (.val .bor (.bool))], [], fun v => laws_eqSnap v.1 v.2.1 v.2.2.1 v.2.2.2.1⟩
theorem laws_eqSnap.eq : ∀ v, evFn laws_eqSnap.E f60 laws_eqSnap.ent.ptrs laws_eqSnap.ent.ins laws_eqSnap.ent.rets laws_eqSnap.ent.outs v = laws_eqSnap.ent.f v := by intro v; kernel_rfl
theorem laws_eqSnap.fok : ∀ q ∈ [((54 : Nat), laws_eqInt64S.ent)], EntryOK Pr q.1 q.2 := by
 intro q hq
 simp only [List.mem_cons, List.mem_nil_iff, or_false] at hq
 rcases hq with rfl
 · exact laws_eqInt64S.ok
theorem laws_eqSnap.ls : loopsOf (bodyOf f60) = [] := by kernel_rfl
theorem laws_eqSnap.ok : EntryOK Pr 60 laws_eqSnap.ent :=
 entry_ok (E := laws_eqSnap.E) (EnvOK.of dok laws_eqSnap.fok) mixed (fn := f60) (by kernel_rfl) (by kernel_rfl) (by decide) laws_eqSnap.ls (by intro l hl; simp at hl) laws_eqSnap.eq
/-! ### loop.example/g00038/laws.eqSnapS -/
noncomputable def laws_eqSnapS.E4 : Env := ⟨D, [], [(60, laws_eqSnap.ent)], []⟩
noncomputable def laws_eqSnapS_l4_step (rec : List V2 → List V2 → Int → Option ((Bool × Unit) ⊕ (Unit))) (y0 : List V2) (y1 : List V2) (y2 : Int) : Option ((Bool × Unit) ⊕ (Unit)) :=
 let b2 : Bool := decide (y2 < (y0.length : Int))
 bif b2 then
  let e3 : V2 := rd R2 y0 y2
  let e4 : V2 := rd R2 y1 y2
  (laws_eqSnap e3.1 e3.2 e4.1 e4.2).bind fun r5 =>
  bif (decide (0 ≤ y2) && decide (y2 < (y0.length : Int))) && (decide (0 ≤ y2) && decide (y2 < (y1.length : Int))) then
   bif !r5.1 then
    some (Sum.inl (false, ()))
   else
    rec y0 y1 (wrap64 (y2 + 1))
  else none
 else
  some (Sum.inr ())
noncomputable def laws_eqSnapS_l4 : Nat → List V2 → List V2 → Int → Option ((Bool × Unit) ⊕ (Unit))
 | 0 => fun _ _ _ => none
 | n + 1 => laws_eqSnapS_l4_step (laws_eqSnapS_l4 n)
noncomputable def laws_eqSnapS_l4.ent : LEntry := ⟨(.cell (.val .bor (.slice R2)) :: (.cell (.val .bor (.slice R2)) :: (sk 3 (.cell (.val .bor (.int .i64)) :: (sk 21 []))))), rk 27 [], [], [], [⟨none, sk 4 (.cell (.val .bor (.bool)) :: (sk 22 [])), rk 27 [], [], []⟩, ⟨some 0, sk 27 [], rk 27 [], [], []⟩], fun v => laws_eqSnapS_l4 K0 v.1 v.2.1 v.2.2.1⟩
theorem laws_eqSnapS_l4.eq : ∀ rec v, evStep laws_eqSnapS.E4 (bodyAt 4 f56) laws_eqSnapS_l4.ent.ins laws_eqSnapS_l4.ent.rts laws_eqSnapS_l4.ent.hm laws_eqSnapS_l4.ent.nl laws_eqSnapS_l4.ent.xs rec v = laws_eqSnapS_l4_step (fun c0 c1 c2 => rec (c0, c1, c2, ())) v.1 v.2.1 v.2.2.1 := by intro rec v; kernel_rfl
noncomputable def laws_eqSnapS.E : Env := ⟨D, [], [(60, laws_eqSnap.ent)], [(4, laws_eqSnapS_l4.ent)]⟩
noncomputable def laws_eqSnapS (a0 : List V2) (a1 : List V2) : Option (Bool × Unit) :=
 let b1 : Bool := ((a0.length : Int) != (a1.length : Int))
 bif b1 then
  some (false, ())
 else
  (laws_eqSnapS_l4 K0 a0 a1 0).bind fun o6 =>
  match o6 with
  | Sum.inl p7 =>
   some (p7.1, ())
  | Sum.inr p8 =>
   some (true, ())
noncomputable def laws_eqSnapS.ent : Entry := ⟨[false, false], [.cell (.val .bor (.slice R2)), .cell (.val .bor (.slice R2))], [.cell (.val .bor (.bool))], [], fun v => laws_eqSnapS v.1 v.2.1⟩
theorem laws_eqSnapS.eq : ∀ v, evFn laws_eqSnapS.E f56 laws_eqSnapS.ent.ptrs laws_eqSnapS.ent.ins laws_eqSnapS.ent.rets laws_eqSnapS.ent.outs v = laws_eqSnapS.ent.f v := by intro v; kernel_rfl
theorem laws_eqSnapS.fok : ∀ q ∈ [((60 : Nat), laws_eqSnap.ent)], EntryOK Pr q.1 q.2 := by
 intro q hq
 simp only [List.mem_cons, List.mem_nil_iff, or_false] at hq
 rcases hq with rfl
 · exact laws_eqSnap.ok
theorem laws_eqSnapS_l4.it : ∀ n v, iter (evStep laws_eqSnapS.E4 (bodyAt 4 f56) laws_eqSnapS_l4.ent.ins laws_eqSnapS_l4.ent.rts laws_eqSnapS_l4.ent.hm laws_eqSnapS_l4.ent.nl laws_eqSnapS_l4.ent.xs) n v = laws_eqSnapS_l4 n v.1 v.2.1 v.2.2.1 := by
 intro n
 induction n with
 | zero => intro v; rfl
 | succ n ih =>
  intro v
  show (evStep laws_eqSnapS.E4 (bodyAt 4 f56) laws_eqSnapS_l4.ent.ins laws_eqSnapS_l4.ent.rts laws_eqSnapS_l4.ent.hm laws_eqSnapS_l4.ent.nl laws_eqSnapS_l4.ent.xs) (iter (evStep laws_eqSnapS.E4 (bodyAt 4 f56) laws_eqSnapS_l4.ent.ins laws_eqSnapS_l4.ent.rts laws_eqSnapS_l4.ent.hm laws_eqSnapS_l4.ent.nl laws_eqSnapS_l4.ent.xs) n) v = _
  rw [laws_eqSnapS_l4.eq, show (fun c0 c1 c2 => iter (evStep laws_eqSnapS.E4 (bodyAt 4 f56) laws_eqSnapS_l4.ent.ins laws_eqSnapS_l4.ent.rts laws_eqSnapS_l4.ent.hm laws_eqSnapS_l4.ent.nl laws_eqSnapS_l4.ent.xs) n (c0, c1, c2, ())) = laws_eqSnapS_l4 n from by funext c0 c1 c2; exact ih _]
  rfl
theorem laws_eqSnapS_l4.fr : firstRegion (bodyAt 4 f56) = 4 := by kernel_rfl
theorem laws_eqSnapS_l4.ls : loopsOf (bodyAt 4 f56) = [] := by kernel_rfl
theorem laws_eqSnapS_l4.lok {E : Env} (hpin : laws_eqSnapS.E4.pin = E.pin) (hfind : find 4 E.loops = some laws_eqSnapS_l4.ent) : LoopOK Pr E (bodyAt 4 f56) :=
 loop_of (E1 := laws_eqSnapS.E4) (EnvOK.of dok laws_eqSnapS.fok) mixed hpin (by rw [laws_eqSnapS_l4.fr]; exact hfind) laws_eqSnapS_l4.ls (by intro l hl; simp at hl) (fun v => (laws_eqSnapS_l4.it K0 v).symm)
theorem laws_eqSnapS.ls : loopsOf (bodyOf f56) = [bodyAt 4 f56] := by kernel_rfl
theorem laws_eqSnapS.ok : EntryOK Pr 56 laws_eqSnapS.ent :=
 entry_ok (E := laws_eqSnapS.E) (EnvOK.of dok laws_eqSnapS.fok) mixed (fn := f56) (by kernel_rfl) (by kernel_rfl) (by decide) laws_eqSnapS.ls (by intro l hl; simp only [List.mem_singleton] at hl; subst hl; exact laws_eqSnapS_l4.lok rfl rfl) laws_eqSnapS.eq
/-! ### loop.example/g00038/laws.eqImage -/
noncomputable def laws_eqImage.E : Env := ⟨D, [], [(54, laws_eqInt64S.ent), (55, laws_eqStringS.ent), (56, laws_eqSnapS.ent)], []⟩
noncomputable def laws_eqImage (a0 : ByteArray) (a1 : ByteArray) (a2 : List Int) (a3 : List ByteArray) (a4 : List V2) (a5 : ByteArray) (a6 : ByteArray) (a7 : List Int) (a8 : List ByteArray) (a9 : List V2) : Option (Bool × Unit) :=
 bif !seq a0 a5 then
  some (false, ())
 else
 bif !seq a1 a6 then
  some (false, ())
 else
  (laws_eqInt64S a2 a7).bind fun r1 =>
  bif !r1.1 then
   some (false, ())
  else
   (laws_eqStringS a3 a8).bind fun r2 =>
   bif !r2.1 then
    some (false, ())
   else
    (laws_eqSnapS a4 a9).bind fun r3 =>
    bif !r3.1 then
     some (false, ())
    else
     some (true, ())
noncomputable def laws_eqImage.ent : Entry := ⟨[false, false], [.agg [.val .bor (.str), .val .bor (.str), .val .bor (.slice (.int .i64)), .val .bor (.slice (.str)), .val .bor (.slice R2)], .agg [.val .bor (.str), .val .bor (.str), .val .bor (.slice (.int .i64)), .val .bor (.slice (.str)), .val .bor (.slice R2)]], [.cell (.val .bor (.bool))], [], fun v => laws_eqImage v.1 v.2.1 v.2.2.1 v.2.2.2.1 v.2.2.2.2.1 v.2.2.2.2.2.1 v.2.2.2.2.2.2.1 v.2.2.2.2.2.2.2.1 v.2.2.2.2.2.2.2.2.1 v.2.2.2.2.2.2.2.2.2.1⟩
theorem laws_eqImage.eq : ∀ v, evFn laws_eqImage.E f40 laws_eqImage.ent.ptrs laws_eqImage.ent.ins laws_eqImage.ent.rets laws_eqImage.ent.outs v = laws_eqImage.ent.f v := by intro v; kernel_rfl
theorem laws_eqImage.fok : ∀ q ∈ [((54 : Nat), laws_eqInt64S.ent), ((55 : Nat), laws_eqStringS.ent), ((56 : Nat), laws_eqSnapS.ent)], EntryOK Pr q.1 q.2 := by
 intro q hq
 simp only [List.mem_cons, List.mem_nil_iff, or_false] at hq
 rcases hq with rfl | rfl | rfl
 · exact laws_eqInt64S.ok
 · exact laws_eqStringS.ok
 · exact laws_eqSnapS.ok
theorem laws_eqImage.ls : loopsOf (bodyOf f40) = [] := by kernel_rfl
theorem laws_eqImage.ok : EntryOK Pr 40 laws_eqImage.ent :=
 entry_ok (E := laws_eqImage.E) (EnvOK.of dok laws_eqImage.fok) mixed (fn := f40) (by kernel_rfl) (by kernel_rfl) (by decide) laws_eqImage.ls (by intro l hl; simp at hl) laws_eqImage.eq
/-! ### loop.example/g00038/laws.eqImageS -/
noncomputable def laws_eqImageS.E4 : Env := ⟨D, [], [(40, laws_eqImage.ent)], []⟩
noncomputable def laws_eqImageS_l4_step (rec : List V1 → List V1 → Int → Option ((Bool × Unit) ⊕ (Unit))) (y0 : List V1) (y1 : List V1) (y2 : Int) : Option ((Bool × Unit) ⊕ (Unit)) :=
 let b2 : Bool := decide (y2 < (y0.length : Int))
 bif b2 then
  let e3 : V1 := rd R1 y0 y2
  let e4 : V1 := rd R1 y1 y2
  (laws_eqImage e3.1 e3.2.1 e3.2.2.1 e3.2.2.2.1 e3.2.2.2.2 e4.1 e4.2.1 e4.2.2.1 e4.2.2.2.1 e4.2.2.2.2).bind fun r5 =>
  bif (decide (0 ≤ y2) && decide (y2 < (y0.length : Int))) && (decide (0 ≤ y2) && decide (y2 < (y1.length : Int))) then
   bif !r5.1 then
    some (Sum.inl (false, ()))
   else
    rec y0 y1 (wrap64 (y2 + 1))
  else none
 else
  some (Sum.inr ())
noncomputable def laws_eqImageS_l4 : Nat → List V1 → List V1 → Int → Option ((Bool × Unit) ⊕ (Unit))
 | 0 => fun _ _ _ => none
 | n + 1 => laws_eqImageS_l4_step (laws_eqImageS_l4 n)
noncomputable def laws_eqImageS_l4.ent : LEntry := ⟨(.cell (.val .bor (.slice R1)) :: (.cell (.val .bor (.slice R1)) :: (sk 3 (.cell (.val .bor (.int .i64)) :: (sk 21 []))))), rk 27 [], [], [], [⟨none, sk 4 (.cell (.val .bor (.bool)) :: (sk 22 [])), rk 27 [], [], []⟩, ⟨some 0, sk 27 [], rk 27 [], [], []⟩], fun v => laws_eqImageS_l4 K0 v.1 v.2.1 v.2.2.1⟩
theorem laws_eqImageS_l4.eq : ∀ rec v, evStep laws_eqImageS.E4 (bodyAt 4 f27) laws_eqImageS_l4.ent.ins laws_eqImageS_l4.ent.rts laws_eqImageS_l4.ent.hm laws_eqImageS_l4.ent.nl laws_eqImageS_l4.ent.xs rec v = laws_eqImageS_l4_step (fun c0 c1 c2 => rec (c0, c1, c2, ())) v.1 v.2.1 v.2.2.1 := by intro rec v; kernel_rfl
noncomputable def laws_eqImageS.E : Env := ⟨D, [], [(40, laws_eqImage.ent)], [(4, laws_eqImageS_l4.ent)]⟩
noncomputable def laws_eqImageS (a0 : List V1) (a1 : List V1) : Option (Bool × Unit) :=
 let b1 : Bool := ((a0.length : Int) != (a1.length : Int))
 bif b1 then
  some (false, ())
 else
  (laws_eqImageS_l4 K0 a0 a1 0).bind fun o6 =>
  match o6 with
  | Sum.inl p7 =>
   some (p7.1, ())
  | Sum.inr p8 =>
   some (true, ())
noncomputable def laws_eqImageS.ent : Entry := ⟨[false, false], [.cell (.val .bor (.slice R1)), .cell (.val .bor (.slice R1))], [.cell (.val .bor (.bool))], [], fun v => laws_eqImageS v.1 v.2.1⟩
theorem laws_eqImageS.eq : ∀ v, evFn laws_eqImageS.E f27 laws_eqImageS.ent.ptrs laws_eqImageS.ent.ins laws_eqImageS.ent.rets laws_eqImageS.ent.outs v = laws_eqImageS.ent.f v := by intro v; kernel_rfl
theorem laws_eqImageS.fok : ∀ q ∈ [((40 : Nat), laws_eqImage.ent)], EntryOK Pr q.1 q.2 := by
 intro q hq
 simp only [List.mem_cons, List.mem_nil_iff, or_false] at hq
 rcases hq with rfl
 · exact laws_eqImage.ok
theorem laws_eqImageS_l4.it : ∀ n v, iter (evStep laws_eqImageS.E4 (bodyAt 4 f27) laws_eqImageS_l4.ent.ins laws_eqImageS_l4.ent.rts laws_eqImageS_l4.ent.hm laws_eqImageS_l4.ent.nl laws_eqImageS_l4.ent.xs) n v = laws_eqImageS_l4 n v.1 v.2.1 v.2.2.1 := by
 intro n
 induction n with
 | zero => intro v; rfl
 | succ n ih =>
  intro v
  show (evStep laws_eqImageS.E4 (bodyAt 4 f27) laws_eqImageS_l4.ent.ins laws_eqImageS_l4.ent.rts laws_eqImageS_l4.ent.hm laws_eqImageS_l4.ent.nl laws_eqImageS_l4.ent.xs) (iter (evStep laws_eqImageS.E4 (bodyAt 4 f27) laws_eqImageS_l4.ent.ins laws_eqImageS_l4.ent.rts laws_eqImageS_l4.ent.hm laws_eqImageS_l4.ent.nl laws_eqImageS_l4.ent.xs) n) v = _
  rw [laws_eqImageS_l4.eq, show (fun c0 c1 c2 => iter (evStep laws_eqImageS.E4 (bodyAt 4 f27) laws_eqImageS_l4.ent.ins laws_eqImageS_l4.ent.rts laws_eqImageS_l4.ent.hm laws_eqImageS_l4.ent.nl laws_eqImageS_l4.ent.xs) n (c0, c1, c2, ())) = laws_eqImageS_l4 n from by funext c0 c1 c2; exact ih _]
  rfl
theorem laws_eqImageS_l4.fr : firstRegion (bodyAt 4 f27) = 4 := by kernel_rfl
theorem laws_eqImageS_l4.ls : loopsOf (bodyAt 4 f27) = [] := by kernel_rfl
theorem laws_eqImageS_l4.lok {E : Env} (hpin : laws_eqImageS.E4.pin = E.pin) (hfind : find 4 E.loops = some laws_eqImageS_l4.ent) : LoopOK Pr E (bodyAt 4 f27) :=
 loop_of (E1 := laws_eqImageS.E4) (EnvOK.of dok laws_eqImageS.fok) mixed hpin (by rw [laws_eqImageS_l4.fr]; exact hfind) laws_eqImageS_l4.ls (by intro l hl; simp at hl) (fun v => (laws_eqImageS_l4.it K0 v).symm)
theorem laws_eqImageS.ls : loopsOf (bodyOf f27) = [bodyAt 4 f27] := by kernel_rfl
theorem laws_eqImageS.ok : EntryOK Pr 27 laws_eqImageS.ent :=
 entry_ok (E := laws_eqImageS.E) (EnvOK.of dok laws_eqImageS.fok) mixed (fn := f27) (by kernel_rfl) (by kernel_rfl) (by decide) laws_eqImageS.ls (by intro l hl; simp only [List.mem_singleton] at hl; subst hl; exact laws_eqImageS_l4.lok rfl rfl) laws_eqImageS.eq
/-! ### loop.example/g00038/laws.eqJob -/
noncomputable def laws_eqJob.E : Env := ⟨D, [], [], []⟩
noncomputable def laws_eqJob (a0 : Int) (a1 : Int) (a2 : ByteArray) (a3 : ByteArray) (a4 : Int) (a5 : Int) (a6 : ByteArray) (a7 : ByteArray) : Option (Bool × Unit) :=
 bif (a0 != a4) then
  some (false, ())
 else
 bif (a1 != a5) then
  some (false, ())
 else
 bif !seq a2 a6 then
  some (false, ())
 else
 bif !seq a3 a7 then
  some (false, ())
 else
  some (true, ())
noncomputable def laws_eqJob.ent : Entry := ⟨[false, false], [.agg [.val .bor (.int .i64), .val .bor (.int .i64), .val .bor (.str), .val .bor (.str)], .agg [.val .bor (.int .i64), .val .bor (.int .i64), .val .bor (.str), .val .bor (.str)]], [.cell (.val .bor (.bool))], [], fun v => laws_eqJob v.1 v.2.1 v.2.2.1 v.2.2.2.1 v.2.2.2.2.1 v.2.2.2.2.2.1 v.2.2.2.2.2.2.1 v.2.2.2.2.2.2.2.1⟩
theorem laws_eqJob.eq : ∀ v, evFn laws_eqJob.E f28 laws_eqJob.ent.ptrs laws_eqJob.ent.ins laws_eqJob.ent.rets laws_eqJob.ent.outs v = laws_eqJob.ent.f v := by intro v; kernel_rfl
theorem laws_eqJob.fok : ∀ q ∈ ([] : List (Nat × Entry)), EntryOK Pr q.1 q.2 := by intro q hq; simp at hq
theorem laws_eqJob.ls : loopsOf (bodyOf f28) = [] := by kernel_rfl
theorem laws_eqJob.ok : EntryOK Pr 28 laws_eqJob.ent :=
 entry_ok (E := laws_eqJob.E) (EnvOK.of dok laws_eqJob.fok) mixed (fn := f28) (by kernel_rfl) (by kernel_rfl) (by decide) laws_eqJob.ls (by intro l hl; simp at hl) laws_eqJob.eq
/-! ### loop.example/g00038/laws.eqJobState -/
noncomputable def laws_eqJobState.E : Env := ⟨D, [], [(27, laws_eqImageS.ent), (28, laws_eqJob.ent)], []⟩
noncomputable def laws_eqJobState (a0 : List V1) (a1 : ByteArray) (a2 : Int) (a3 : Int) (a4 : ByteArray) (a5 : ByteArray) (a6 : List V1) (a7 : ByteArray) (a8 : Int) (a9 : Int) (a10 : ByteArray) (a11 : ByteArray) : Option (Bool × Unit) :=
 (laws_eqImageS a0 a6).bind fun r1 =>
 bif !r1.1 then
  some (false, ())
 else
 bif !seq a1 a7 then
  some (false, ())
 else
  (laws_eqJob a2 a3 a4 a5 a8 a9 a10 a11).bind fun r2 =>
  bif !r2.1 then
   some (false, ())
  else
   some (true, ())
noncomputable def laws_eqJobState.ent : Entry := ⟨[false, false], [.agg [.val .bor (.slice R1), .val .bor (.str), .val .bor (.int .i64), .val .bor (.int .i64), .val .bor (.str), .val .bor (.str)], .agg [.val .bor (.slice R1), .val .bor (.str), .val .bor (.int .i64), .val .bor (.int .i64), .val .bor (.str), .val .bor (.str)]], [.cell (.val .bor (.bool))], [], fun v => laws_eqJobState v.1 v.2.1 v.2.2.1 v.2.2.2.1 v.2.2.2.2.1 v.2.2.2.2.2.1 v.2.2.2.2.2.2.1 v.2.2.2.2.2.2.2.1 v.2.2.2.2.2.2.2.2.1 v.2.2.2.2.2.2.2.2.2.1 v.2.2.2.2.2.2.2.2.2.2.1 v.2.2.2.2.2.2.2.2.2.2.2.1⟩
theorem laws_eqJobState.eq : ∀ v, evFn laws_eqJobState.E f8 laws_eqJobState.ent.ptrs laws_eqJobState.ent.ins laws_eqJobState.ent.rets laws_eqJobState.ent.outs v = laws_eqJobState.ent.f v := by intro v; kernel_rfl
theorem laws_eqJobState.fok : ∀ q ∈ [((27 : Nat), laws_eqImageS.ent), ((28 : Nat), laws_eqJob.ent)], EntryOK Pr q.1 q.2 := by
 intro q hq
 simp only [List.mem_cons, List.mem_nil_iff, or_false] at hq
 rcases hq with rfl | rfl
 · exact laws_eqImageS.ok
 · exact laws_eqJob.ok
theorem laws_eqJobState.ls : loopsOf (bodyOf f8) = [] := by kernel_rfl
theorem laws_eqJobState.ok : EntryOK Pr 8 laws_eqJobState.ent :=
 entry_ok (E := laws_eqJobState.E) (EnvOK.of dok laws_eqJobState.fok) mixed (fn := f8) (by kernel_rfl) (by kernel_rfl) (by decide) laws_eqJobState.ls (by intro l hl; simp at hl) laws_eqJobState.eq
/-! ### loop.example/g00038/laws.FnExactJobFault -/
noncomputable def laws_FnExactJobFault.E : Env := ⟨D, [], [(4, laws_szJobState.ent), (6, laws_toJobState.ent), (5, spec_JobFault.ent), (7, impl_JobFault.ent), (8, laws_eqJobState.ent)], []⟩
noncomputable def laws_FnExactJobFault (a0 : List V1) (a1 : ByteArray) (a2 : Int) (a3 : Int) (a4 : ByteArray) (a5 : ByteArray) : Option (Bool × Unit) :=
 (laws_szJobState a0 a1 a2 a3 a4 a5 1048576).bind fun r1 =>
 bif decide (r1.1 < 0) then
  some (true, ())
 else
  (laws_toJobState a0 a1 a2 a3 a4 a5).bind fun r2 =>
  (spec_JobFault r2.1 r2.2.1 r2.2.2.1 r2.2.2.2.1 r2.2.2.2.2.1 r2.2.2.2.2.2.1).bind fun r3 =>
  (laws_toJobState a0 a1 a2 a3 a4 a5).bind fun r4 =>
  (impl_JobFault r4.1 r4.2.1 r4.2.2.1 r4.2.2.2.1 r4.2.2.2.2.1 r4.2.2.2.2.2.1).bind fun r5 =>
  bif (r5.1 != r3.1) then
   some (false, ())
  else
   (laws_toJobState a0 a1 a2 a3 a4 a5).bind fun r6 =>
   (laws_eqJobState r4.1 r4.2.1 r4.2.2.1 r4.2.2.2.1 r4.2.2.2.2.1 r4.2.2.2.2.2.1 r6.1 r6.2.1 r6.2.2.1 r6.2.2.2.1 r6.2.2.2.2.1 r6.2.2.2.2.2.1).bind fun r7 =>
   bif !r7.1 then
    some (false, ())
   else
    some (true, ())
noncomputable def laws_FnExactJobFault.ent : Entry := ⟨[false], [.agg [.val .imm (.slice R1), .val .bor (.str), .val .bor (.int .i64), .val .bor (.int .i64), .val .bor (.str), .val .bor (.str)]], [.cell (.val .bor (.bool))], [], fun v => laws_FnExactJobFault v.1 v.2.1 v.2.2.1 v.2.2.2.1 v.2.2.2.2.1 v.2.2.2.2.2.1⟩
theorem laws_FnExactJobFault.eq : ∀ v, evFn laws_FnExactJobFault.E f3 laws_FnExactJobFault.ent.ptrs laws_FnExactJobFault.ent.ins laws_FnExactJobFault.ent.rets laws_FnExactJobFault.ent.outs v = laws_FnExactJobFault.ent.f v := by intro v; kernel_rfl
theorem laws_FnExactJobFault.fok : ∀ q ∈ [((4 : Nat), laws_szJobState.ent), ((6 : Nat), laws_toJobState.ent), ((5 : Nat), spec_JobFault.ent), ((7 : Nat), impl_JobFault.ent), ((8 : Nat), laws_eqJobState.ent)], EntryOK Pr q.1 q.2 := by
 intro q hq
 simp only [List.mem_cons, List.mem_nil_iff, or_false] at hq
 rcases hq with rfl | rfl | rfl | rfl | rfl
 · exact laws_szJobState.ok
 · exact laws_toJobState.ok
 · exact spec_JobFault.ok
 · exact impl_JobFault.ok
 · exact laws_eqJobState.ok
theorem laws_FnExactJobFault.ls : loopsOf (bodyOf f3) = [] := by kernel_rfl
theorem laws_FnExactJobFault.ok : EntryOK Pr 3 laws_FnExactJobFault.ent :=
 entry_ok (E := laws_FnExactJobFault.E) (EnvOK.of dok laws_FnExactJobFault.fok) mixed (fn := f3) (by kernel_rfl) (by kernel_rfl) (by decide) laws_FnExactJobFault.ls (by intro l hl; simp at hl) laws_FnExactJobFault.eq
end Go.Ab.FnExactJobFault