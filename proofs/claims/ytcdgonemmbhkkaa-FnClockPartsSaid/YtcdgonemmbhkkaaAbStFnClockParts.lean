/- The law FnClockParts: its plain statement, over the evaluator's function, and that the call follows from it. -/
import Derived.Test.YtcdgonemmbhkkaaAbFnClockParts
namespace Go.Ab.FnClockParts
open Go.RowKit
set_option linter.unusedVariables false
set_option maxRecDepth 100000
def laws_FnClockParts.Pure : Prop := ∀ (x0 : ((.slice (.int .u8)) : Ty).val) (x1 : ((.slice (.int .u8)) : Ty).val), good (.slice (.int .u8)) x0 → good (.slice (.int .u8)) x1 → laws_FnClockParts x0 x1 = some (true, ())
theorem laws_FnClockParts.walk (Q : laws_FnClockParts.Pure) (x0 : ((.slice (.int .u8)) : Ty).val) (x1 : ((.slice (.int .u8)) : Ty).val) (w : World) {v0 : Value} (r0 : RepC w (topS w .imm) (.slice (.int .u8)) x0 [v0]) {v1 : Value} (r1 : RepC w (topS w .imm) (.slice (.int .u8)) x1 [v1]) (g0 : good (.slice (.int .u8)) x0) (g1 : good (.slice (.int .u8)) x1) (ht : ∀ q ∈ tabs, ∃ c t e, w.heap[q.1]? = some (.cells c t e) ∧ q.2 c) :
    Calls Go.Proofs.Try.prog 6 #[v0, v1] w (fun e w' => e = .returned (.bool true) ∧ Below w.heap.size w w') :=
  call_top laws_FnClockParts.ok (ps := [.sl .imm (.int .u8) x0, .sl .imm (.int .u8) x1]) (cs := [.sl .imm (.int .u8) x0, .sl .imm (.int .u8) x1]) (v := (x0, x1, ())) (r := (true, ())) (s2 := ⟨[], []⟩) (args := [v0, v1]) (⟨_, _, rfl, r0, ⟨_, _, rfl, r1, rfl⟩⟩) (by kernel_rfl) (by kernel_rfl) (Q x0 x1 g0 g1) (by kernel_rfl) ht
end Go.Ab.FnClockParts
