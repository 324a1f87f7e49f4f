/- The law FnExactSendFrames: its plain statement, over the evaluator's function, and that the call follows from it. -/
import Derived.Test.YtcljoifconichaaAbFnExactSendFrames
namespace Go.Ab.FnExactSendFrames
open Go.RowKit
set_option linter.unusedVariables false
set_option maxRecDepth 100000
def laws_FnExactSendFrames.Pure : Prop := ∀ (x0 : (.str : Ty).val) (x1 : ((.pair (.int .i64) (.pair (.int .i64) (.pair (.int .i64) .bool))) : Ty).val), x0.size ≤ 140737488351232 → good (.pair (.int .i64) (.pair (.int .i64) (.pair (.int .i64) .bool))) x1 → laws_FnExactSendFrames x0 x1.1 x1.2.1 x1.2.2.1 x1.2.2.2 = some (true, ())
theorem laws_FnExactSendFrames.walk (Q : laws_FnExactSendFrames.Pure) (x0 : (.str : Ty).val) (x1 : ((.pair (.int .i64) (.pair (.int .i64) (.pair (.int .i64) .bool))) : Ty).val) (w : World) {cs1 : Array Value} (r1 : RepC w (topS w .bor) (.pair (.int .i64) (.pair (.int .i64) (.pair (.int .i64) .bool))) x1 cs1.toList) (g0 : x0.size ≤ 140737488351232) (g1 : good (.pair (.int .i64) (.pair (.int .i64) (.pair (.int .i64) .bool))) x1) :
    Calls Go.Proofs.Try.prog 3 #[.string x0, .agg cs1] w (fun e w' => e = .returned (.bool true) ∧ Below w.heap.size w w') :=
  call_top laws_FnExactSendFrames.ok (ps := [.str x0, .agg (enc .imm (.pair (.int .i64) (.pair (.int .i64) (.pair (.int .i64) .bool))) x1)]) (cs := [.str x0, .int .i64 x1.1, .int .i64 x1.2.1, .int .i64 x1.2.2.1, .bool x1.2.2.2]) (v := (x0, x1.1, x1.2.1, x1.2.2.1, x1.2.2.2, ())) (r := (true, ())) (s2 := ⟨[], []⟩) (args := [.string x0, .agg cs1]) (⟨_, _, rfl, rfl, ⟨_, _, rfl, agg_top r1, rfl⟩⟩) (by kernel_rfl) (by kernel_rfl) (Q x0 x1 g0 g1) (by kernel_rfl)
end Go.Ab.FnExactSendFrames
