/- The law FnExactTlbFlush: its plain statement, over the evaluator's function, and that the call follows from it. -/
import Derived.Test.YtaopkodopglgeaaAbFnExactTlbFlush
namespace Go.Ab.FnExactTlbFlush
open Go.RowKit
set_option linter.unusedVariables false
set_option maxRecDepth 100000
def laws_FnExactTlbFlush.Pure : Prop := ∀ (x0 : ((.pair (.slice (.pair (.int .i64) (.pair (.int .i64) (.pair (.int .i64) (.pair (.int .i64) .bool))))) (.int .i64)) : Ty).val) (x1 : ((.int .i64) : Ty).val) (x2 : ((.int .i64) : Ty).val), good (.pair (.slice (.pair (.int .i64) (.pair (.int .i64) (.pair (.int .i64) (.pair (.int .i64) .bool))))) (.int .i64)) x0 → good (.int .i64) x1 → good (.int .i64) x2 → laws_FnExactTlbFlush x0.1 x0.2 x1 x2 = some (true, ())
theorem laws_FnExactTlbFlush.walk (Q : laws_FnExactTlbFlush.Pure) (x0 : ((.pair (.slice (.pair (.int .i64) (.pair (.int .i64) (.pair (.int .i64) (.pair (.int .i64) .bool))))) (.int .i64)) : Ty).val) (x1 : ((.int .i64) : Ty).val) (x2 : ((.int .i64) : Ty).val) (w : World) {cs0 : Array Value} (r0 : RepC w (topS w .bor) (.pair (.slice (.pair (.int .i64) (.pair (.int .i64) (.pair (.int .i64) (.pair (.int .i64) .bool))))) (.int .i64)) x0 cs0.toList) (g0 : good (.pair (.slice (.pair (.int .i64) (.pair (.int .i64) (.pair (.int .i64) (.pair (.int .i64) .bool))))) (.int .i64)) x0) (g1 : good (.int .i64) x1) (g2 : good (.int .i64) x2) :
    Calls Go.Proofs.Try.prog 4 #[.agg cs0, .int .i64 x1, .int .i64 x2] w (fun e w' => e = .returned (.bool true) ∧ Below w.heap.size w w') :=
  call_top laws_FnExactTlbFlush.ok (ps := [.agg (enc .imm (.pair (.slice (.pair (.int .i64) (.pair (.int .i64) (.pair (.int .i64) (.pair (.int .i64) .bool))))) (.int .i64)) x0), .int .i64 x1, .int .i64 x2]) (cs := [.sl .imm (.pair (.int .i64) (.pair (.int .i64) (.pair (.int .i64) (.pair (.int .i64) .bool)))) x0.1, .int .i64 x0.2, .int .i64 x1, .int .i64 x2]) (v := (x0.1, x0.2, x1, x2, ())) (r := (true, ())) (s2 := ⟨[], []⟩) (args := [.agg cs0, .int .i64 x1, .int .i64 x2]) (⟨_, _, rfl, agg_top r0, ⟨_, _, rfl, rfl, ⟨_, _, rfl, rfl, rfl⟩⟩⟩) (by kernel_rfl) (by kernel_rfl) (Q x0 x1 x2 g0 g1 g2) (by kernel_rfl)
end Go.Ab.FnExactTlbFlush
