/- The law FnChains: its plain statement, over the evaluator's function, and that the call follows from it. -/
import Derived.Test.YtcdgonemmbhkkaaAbFnChains
namespace Go.Ab.FnChains
open Go.RowKit
set_option linter.unusedVariables false
set_option maxRecDepth 100000
def laws_FnChains.Pure : Prop := ∀ (x0 : ((.slice (.int .u8)) : Ty).val), good (.slice (.int .u8)) x0 → laws_FnChains x0 = some (true, ())
theorem laws_FnChains.walk (Q : laws_FnChains.Pure) (x0 : ((.slice (.int .u8)) : Ty).val) (w : World) {v0 : Value} (r0 : RepC w (topS w .imm) (.slice (.int .u8)) x0 [v0]) (g0 : good (.slice (.int .u8)) x0) (ht : ∀ q ∈ tabs, ∃ c t e, w.heap[q.1]? = some (.cells c t e) ∧ q.2 c) :
    Calls Go.Proofs.Try.prog 3 #[v0] w (fun e w' => e = .returned (.bool true) ∧ Below w.heap.size w w') :=
  call_top laws_FnChains.ok (ps := [.sl .imm (.int .u8) x0]) (cs := [.sl .imm (.int .u8) x0]) (v := (x0, ())) (r := (true, ())) (s2 := ⟨[], []⟩) (args := [v0]) (⟨_, _, rfl, r0, rfl⟩) (by kernel_rfl) (by kernel_rfl) (Q x0 g0) (by kernel_rfl) ht
end Go.Ab.FnChains
