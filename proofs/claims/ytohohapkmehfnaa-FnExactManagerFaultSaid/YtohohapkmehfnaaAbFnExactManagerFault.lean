/- The functions that the law FnExactManagerFault reaches, over plain values, and that each does what its code does: part 2 of 2. Without conditions. -/
import Derived.Test.YtohohapkmehfnaaProg
import Derived.Test.YtohohapkmehfnaaAbD
import Derived.Test.YtohohapkmehfnaaAcFnExactManagerFault
namespace Go.Ab.FnExactManagerFault
open Go.RowKit
set_option linter.unusedVariables false
set_option maxRecDepth 100000
/-! ### loop.example/g00038/laws.eqManJobS -/
noncomputable def laws_eqManJobS.E4 : Env := ⟨D, [], [(95, laws_eqManJob.ent)], []⟩
noncomputable def laws_eqManJobS_l4_step (rec : List V4 → List V4 → Int → Option ((Bool × Unit) ⊕ (Unit))) (y0 : List V4) (y1 : List V4) (y2 : Int) : Option ((Bool × Unit) ⊕ (Unit)) :=
 let b2 : Bool := decide (y2 < (y0.length : Int))
 bif b2 then
  let e3 : V4 := rd R4 y0 y2
  let e4 : V4 := rd R4 y1 y2
  (laws_eqManJob e3.1 e3.2.1 e3.2.2.1 e3.2.2.2.1 e3.2.2.2.2 e4.1 e4.2.1 e4.2.2.1 e4.2.2.2.1 e4.2.2.2.2).bind fun r5 =>
  bif (decide (0 ≤ y2) && decide (y2 < (y0.length : Int))) && (decide (0 ≤ y2) && decide (y2 < (y1.length : Int))) then
   bif !r5.1 then
    some (Sum.inl (false, ()))
   else
    rec y0 y1 (wrap64 (y2 + 1))
  else none
 else
  some (Sum.inr ())
noncomputable def laws_eqManJobS_l4 : Nat → List V4 → List V4 → Int → Option ((Bool × Unit) ⊕ (Unit))
 | 0 => fun _ _ _ => none
 | n + 1 => laws_eqManJobS_l4_step (laws_eqManJobS_l4 n)
noncomputable def laws_eqManJobS_l4.ent : LEntry := ⟨(.cell (.val .bor (.slice R4)) :: (.cell (.val .bor (.slice R4)) :: (sk 3 (.cell (.val .bor (.int .i64)) :: (sk 21 []))))), rk 27 [], [], [], [⟨none, sk 4 (.cell (.val .bor (.bool)) :: (sk 22 [])), rk 27 [], [], []⟩, ⟨some 0, sk 27 [], rk 27 [], [], []⟩], fun v => laws_eqManJobS_l4 K0 v.1 v.2.1 v.2.2.1⟩
theorem laws_eqManJobS_l4.eq : ∀ rec v, evStep laws_eqManJobS.E4 (bodyAt 4 f64) laws_eqManJobS_l4.ent.ins laws_eqManJobS_l4.ent.rts laws_eqManJobS_l4.ent.hm laws_eqManJobS_l4.ent.nl laws_eqManJobS_l4.ent.xs rec v = laws_eqManJobS_l4_step (fun c0 c1 c2 => rec (c0, c1, c2, ())) v.1 v.2.1 v.2.2.1 := by intro rec v; kernel_rfl
noncomputable def laws_eqManJobS.E : Env := ⟨D, [], [(95, laws_eqManJob.ent)], [(4, laws_eqManJobS_l4.ent)]⟩
noncomputable def laws_eqManJobS (a0 : List V4) (a1 : List V4) : Option (Bool × Unit) :=
 let b1 : Bool := ((a0.length : Int) != (a1.length : Int))
 bif b1 then
  some (false, ())
 else
  (laws_eqManJobS_l4 K0 a0 a1 0).bind fun o6 =>
  match o6 with
  | Sum.inl p7 =>
   some (p7.1, ())
  | Sum.inr p8 =>
   some (true, ())
noncomputable def laws_eqManJobS.ent : Entry := ⟨[false, false], [.cell (.val .bor (.slice R4)), .cell (.val .bor (.slice R4))], [.cell (.val .bor (.bool))], [], fun v => laws_eqManJobS v.1 v.2.1⟩
theorem laws_eqManJobS.eq : ∀ v, evFn laws_eqManJobS.E f64 laws_eqManJobS.ent.ptrs laws_eqManJobS.ent.ins laws_eqManJobS.ent.rets laws_eqManJobS.ent.outs v = laws_eqManJobS.ent.f v := by intro v; kernel_rfl
theorem laws_eqManJobS.fok : ∀ q ∈ [((95 : Nat), laws_eqManJob.ent)], EntryOK Pr q.1 q.2 := by
 intro q hq
 simp only [List.mem_cons, List.mem_nil_iff, or_false] at hq
 rcases hq with rfl
 · exact laws_eqManJob.ok
theorem laws_eqManJobS_l4.it : ∀ n v, iter (evStep laws_eqManJobS.E4 (bodyAt 4 f64) laws_eqManJobS_l4.ent.ins laws_eqManJobS_l4.ent.rts laws_eqManJobS_l4.ent.hm laws_eqManJobS_l4.ent.nl laws_eqManJobS_l4.ent.xs) n v = laws_eqManJobS_l4 n v.1 v.2.1 v.2.2.1 := by
 intro n
 induction n with
 | zero => intro v; rfl
 | succ n ih =>
  intro v
  show (evStep laws_eqManJobS.E4 (bodyAt 4 f64) laws_eqManJobS_l4.ent.ins laws_eqManJobS_l4.ent.rts laws_eqManJobS_l4.ent.hm laws_eqManJobS_l4.ent.nl laws_eqManJobS_l4.ent.xs) (iter (evStep laws_eqManJobS.E4 (bodyAt 4 f64) laws_eqManJobS_l4.ent.ins laws_eqManJobS_l4.ent.rts laws_eqManJobS_l4.ent.hm laws_eqManJobS_l4.ent.nl laws_eqManJobS_l4.ent.xs) n) v = _
  rw [laws_eqManJobS_l4.eq, show (fun c0 c1 c2 => iter (evStep laws_eqManJobS.E4 (bodyAt 4 f64) laws_eqManJobS_l4.ent.ins laws_eqManJobS_l4.ent.rts laws_eqManJobS_l4.ent.hm laws_eqManJobS_l4.ent.nl laws_eqManJobS_l4.ent.xs) n (c0, c1, c2, ())) = laws_eqManJobS_l4 n from by funext c0 c1 c2; exact ih _]
  rfl
theorem laws_eqManJobS_l4.fr : firstRegion (bodyAt 4 f64) = 4 := by kernel_rfl
theorem laws_eqManJobS_l4.ls : loopsOf (bodyAt 4 f64) = [] := by kernel_rfl
theorem laws_eqManJobS_l4.lok {E : Env} (hpin : laws_eqManJobS.E4.pin = E.pin) (hfind : find 4 E.loops = some laws_eqManJobS_l4.ent) : LoopOK Pr E (bodyAt 4 f64) :=
 loop_of (E1 := laws_eqManJobS.E4) (EnvOK.of dok laws_eqManJobS.fok) mixed hpin (by rw [laws_eqManJobS_l4.fr]; exact hfind) laws_eqManJobS_l4.ls (by intro l hl; simp at hl) (fun v => (laws_eqManJobS_l4.it K0 v).symm)
theorem laws_eqManJobS.ls : loopsOf (bodyOf f64) = [bodyAt 4 f64] := by kernel_rfl
theorem laws_eqManJobS.ok : EntryOK Pr 64 laws_eqManJobS.ent :=
 entry_ok (E := laws_eqManJobS.E) (EnvOK.of dok laws_eqManJobS.fok) mixed (fn := f64) (by kernel_rfl) (by kernel_rfl) (by decide) laws_eqManJobS.ls (by intro l hl; simp only [List.mem_singleton] at hl; subst hl; exact laws_eqManJobS_l4.lok rfl rfl) laws_eqManJobS.eq
/-! ### loop.example/g00038/laws.eqManager -/
noncomputable def laws_eqManager.E : Env := ⟨D, [], [(13, laws_eqCluster.ent), (63, laws_eqAnswerS.ent), (64, laws_eqManJobS.ent)], []⟩
noncomputable def laws_eqManager (a0 : List V1) (a1 : List V2) (a2 : List V5) (a3 : Int) (a4 : Int) (a5 : List V3) (a6 : List V4) (a7 : Int) (a8 : List V1) (a9 : List V2) (a10 : List V5) (a11 : Int) (a12 : Int) (a13 : List V3) (a14 : List V4) (a15 : Int) : Option (Bool × Unit) :=
 (laws_eqCluster a0 a1 a2 a3 a4 a8 a9 a10 a11 a12).bind fun r1 =>
 bif !r1.1 then
  some (false, ())
 else
  (laws_eqAnswerS a5 a13).bind fun r2 =>
  bif !r2.1 then
   some (false, ())
  else
   (laws_eqManJobS a6 a14).bind fun r3 =>
   bif !r3.1 then
    some (false, ())
   else
   bif (a7 != a15) then
    some (false, ())
   else
    some (true, ())
noncomputable def laws_eqManager.ent : Entry := ⟨[false, false], [.agg [.val .bor (.slice R1), .val .bor (.slice R2), .val .bor (.slice R5), .val .bor (.int .i64), .val .bor (.int .i64), .val .bor (.slice R3), .val .bor (.slice R4), .val .bor (.int .i64)], .agg [.val .bor (.slice R1), .val .bor (.slice R2), .val .bor (.slice R5), .val .bor (.int .i64), .val .bor (.int .i64), .val .bor (.slice R3), .val .bor (.slice R4), .val .bor (.int .i64)]], [.cell (.val .bor (.bool))], [], fun v => laws_eqManager v.1 v.2.1 v.2.2.1 v.2.2.2.1 v.2.2.2.2.1 v.2.2.2.2.2.1 v.2.2.2.2.2.2.1 v.2.2.2.2.2.2.2.1 v.2.2.2.2.2.2.2.2.1 v.2.2.2.2.2.2.2.2.2.1 v.2.2.2.2.2.2.2.2.2.2.1 v.2.2.2.2.2.2.2.2.2.2.2.1 v.2.2.2.2.2.2.2.2.2.2.2.2.1 v.2.2.2.2.2.2.2.2.2.2.2.2.2.1 v.2.2.2.2.2.2.2.2.2.2.2.2.2.2.1 v.2.2.2.2.2.2.2.2.2.2.2.2.2.2.2.1⟩
theorem laws_eqManager.eq : ∀ v, evFn laws_eqManager.E f24 laws_eqManager.ent.ptrs laws_eqManager.ent.ins laws_eqManager.ent.rets laws_eqManager.ent.outs v = laws_eqManager.ent.f v := by intro v; kernel_rfl
theorem laws_eqManager.fok : ∀ q ∈ [((13 : Nat), laws_eqCluster.ent), ((63 : Nat), laws_eqAnswerS.ent), ((64 : Nat), laws_eqManJobS.ent)], EntryOK Pr q.1 q.2 := by
 intro q hq
 simp only [List.mem_cons, List.mem_nil_iff, or_false] at hq
 rcases hq with rfl | rfl | rfl
 · exact laws_eqCluster.ok
 · exact laws_eqAnswerS.ok
 · exact laws_eqManJobS.ok
theorem laws_eqManager.ls : loopsOf (bodyOf f24) = [] := by kernel_rfl
theorem laws_eqManager.ok : EntryOK Pr 24 laws_eqManager.ent :=
 entry_ok (E := laws_eqManager.E) (EnvOK.of dok laws_eqManager.fok) mixed (fn := f24) (by kernel_rfl) (by kernel_rfl) (by decide) laws_eqManager.ls (by intro l hl; simp at hl) laws_eqManager.eq
/-! ### loop.example/g00038/laws.FnExactManagerFault -/
noncomputable def laws_FnExactManagerFault.E : Env := ⟨D, [], [(20, laws_szManager.ent), (22, laws_toManager.ent), (21, spec_ManagerFault.ent), (23, impl_ManagerFault.ent), (24, laws_eqManager.ent)], []⟩
noncomputable def laws_FnExactManagerFault (a0 : List V1) (a1 : List V2) (a2 : List V5) (a3 : Int) (a4 : Int) (a5 : List V3) (a6 : List V4) (a7 : Int) : Option (Bool × Unit) :=
 (laws_szManager a0 a1 a2 a3 a4 a5 a6 a7 1048576).bind fun r1 =>
 bif decide (r1.1 < 0) then
  some (true, ())
 else
  (laws_toManager a0 a1 a2 a3 a4 a5 a6 a7).bind fun r2 =>
  (spec_ManagerFault r2.1 r2.2.1 r2.2.2.1 r2.2.2.2.1 r2.2.2.2.2.1 r2.2.2.2.2.2.1 r2.2.2.2.2.2.2.1 r2.2.2.2.2.2.2.2.1).bind fun r3 =>
  (laws_toManager a0 a1 a2 a3 a4 a5 a6 a7).bind fun r4 =>
  (impl_ManagerFault r4.1 r4.2.1 r4.2.2.1 r4.2.2.2.1 r4.2.2.2.2.1 r4.2.2.2.2.2.1 r4.2.2.2.2.2.2.1 r4.2.2.2.2.2.2.2.1).bind fun r5 =>
  bif (r5.1 != r3.1) then
   some (false, ())
  else
   (laws_toManager a0 a1 a2 a3 a4 a5 a6 a7).bind fun r6 =>
   (laws_eqManager r4.1 r4.2.1 r4.2.2.1 r4.2.2.2.1 r4.2.2.2.2.1 r4.2.2.2.2.2.1 r4.2.2.2.2.2.2.1 r4.2.2.2.2.2.2.2.1 r6.1 r6.2.1 r6.2.2.1 r6.2.2.2.1 r6.2.2.2.2.1 r6.2.2.2.2.2.1 r6.2.2.2.2.2.2.1 r6.2.2.2.2.2.2.2.1).bind fun r7 =>
   bif !r7.1 then
    some (false, ())
   else
    some (true, ())
noncomputable def laws_FnExactManagerFault.ent : Entry := ⟨[false], [.agg [.val .imm (.slice R1), .val .imm (.slice R2), .val .imm (.slice R5), .val .bor (.int .i64), .val .bor (.int .i64), .val .imm (.slice R3), .val .imm (.slice R4), .val .bor (.int .i64)]], [.cell (.val .bor (.bool))], [], fun v => laws_FnExactManagerFault v.1 v.2.1 v.2.2.1 v.2.2.2.1 v.2.2.2.2.1 v.2.2.2.2.2.1 v.2.2.2.2.2.2.1 v.2.2.2.2.2.2.2.1⟩
theorem laws_FnExactManagerFault.eq : ∀ v, evFn laws_FnExactManagerFault.E f6 laws_FnExactManagerFault.ent.ptrs laws_FnExactManagerFault.ent.ins laws_FnExactManagerFault.ent.rets laws_FnExactManagerFault.ent.outs v = laws_FnExactManagerFault.ent.f v := by intro v; kernel_rfl
theorem laws_FnExactManagerFault.fok : ∀ q ∈ [((20 : Nat), laws_szManager.ent), ((22 : Nat), laws_toManager.ent), ((21 : Nat), spec_ManagerFault.ent), ((23 : Nat), impl_ManagerFault.ent), ((24 : Nat), laws_eqManager.ent)], EntryOK Pr q.1 q.2 := by
 intro q hq
 simp only [List.mem_cons, List.mem_nil_iff, or_false] at hq
 rcases hq with rfl | rfl | rfl | rfl | rfl
 · exact laws_szManager.ok
 · exact laws_toManager.ok
 · exact spec_ManagerFault.ok
 · exact impl_ManagerFault.ok
 · exact laws_eqManager.ok
theorem laws_FnExactManagerFault.ls : loopsOf (bodyOf f6) = [] := by kernel_rfl
theorem laws_FnExactManagerFault.ok : EntryOK Pr 6 laws_FnExactManagerFault.ent :=
 entry_ok (E := laws_FnExactManagerFault.E) (EnvOK.of dok laws_FnExactManagerFault.fok) mixed (fn := f6) (by kernel_rfl) (by kernel_rfl) (by decide) laws_FnExactManagerFault.ls (by intro l hl; simp at hl) laws_FnExactManagerFault.eq
end Go.Ab.FnExactManagerFault