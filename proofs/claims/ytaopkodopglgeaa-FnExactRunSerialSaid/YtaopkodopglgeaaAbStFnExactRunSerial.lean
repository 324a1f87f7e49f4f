/- The law FnExactRunSerial: its plain statement, over the evaluator's function, and that the call follows from it. -/
import Derived.Test.YtaopkodopglgeaaAbFnExactRunSerial
namespace Go.Ab.FnExactRunSerial
open Go.RowKit
set_option linter.unusedVariables false
set_option maxRecDepth 100000
def laws_FnExactRunSerial.Pure : Prop := ∀ (x0 : ((.pair .str (.pair .str (.pair (.int .i64) .bool))) : Ty).val) (x1 : ((.slice (.pair (.int .i64) (.pair (.int .i64) (.pair (.int .i64) .str)))) : Ty).val), good (.pair .str (.pair .str (.pair (.int .i64) .bool))) x0 → good (.slice (.pair (.int .i64) (.pair (.int .i64) (.pair (.int .i64) .str)))) x1 → laws_FnExactRunSerial x0.1 x0.2.1 x0.2.2.1 x0.2.2.2 x1 = some (true, ())
theorem laws_FnExactRunSerial.walk (Q : laws_FnExactRunSerial.Pure) (x0 : ((.pair .str (.pair .str (.pair (.int .i64) .bool))) : Ty).val) (x1 : ((.slice (.pair (.int .i64) (.pair (.int .i64) (.pair (.int .i64) .str)))) : Ty).val) (w : World) {cs0 : Array Value} (r0 : RepC w (topS w .bor) (.pair .str (.pair .str (.pair (.int .i64) .bool))) x0 cs0.toList) {v1 : Value} (r1 : RepC w (topS w .imm) (.slice (.pair (.int .i64) (.pair (.int .i64) (.pair (.int .i64) .str)))) x1 [v1]) (g0 : good (.pair .str (.pair .str (.pair (.int .i64) .bool))) x0) (g1 : good (.slice (.pair (.int .i64) (.pair (.int .i64) (.pair (.int .i64) .str)))) x1) :
    Calls Go.Proofs.Try.prog 6 #[.agg cs0, v1] w (fun e w' => e = .returned (.bool true) ∧ Below w.heap.size w w') :=
  call_top laws_FnExactRunSerial.ok (ps := [.agg (enc .imm (.pair .str (.pair .str (.pair (.int .i64) .bool))) x0), .sl .imm (.pair (.int .i64) (.pair (.int .i64) (.pair (.int .i64) .str))) x1]) (cs := [.str x0.1, .str x0.2.1, .int .i64 x0.2.2.1, .bool x0.2.2.2, .sl .imm (.pair (.int .i64) (.pair (.int .i64) (.pair (.int .i64) .str))) x1]) (v := (x0.1, x0.2.1, x0.2.2.1, x0.2.2.2, x1, ())) (r := (true, ())) (s2 := ⟨[], []⟩) (args := [.agg cs0, v1]) (⟨_, _, rfl, agg_top r0, ⟨_, _, rfl, r1, rfl⟩⟩) (by kernel_rfl) (by kernel_rfl) (Q x0 x1 g0 g1) (by kernel_rfl)
end Go.Ab.FnExactRunSerial
