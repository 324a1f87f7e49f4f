/- The law FnExactHelloText: its plain statement, over the evaluator's function, and that the call follows from it. -/
import Derived.Test.YtbhbcpglepgbbaaDoorAbFnExactHelloText
namespace Go.Ab.FnExactHelloText
open Go.RowKit
set_option linter.unusedVariables false
set_option maxRecDepth 100000
def laws_FnExactHelloText.Pure : Prop := ∀ (x0 : (.str : Ty).val), x0.size ≤ 140737488351232 → laws_FnExactHelloText x0 = some (true, ())
theorem laws_FnExactHelloText.walk (Q : laws_FnExactHelloText.Pure) (x0 : (.str : Ty).val) (w : World)  (g0 : x0.size ≤ 140737488351232) (ht : ∀ q ∈ tabs, ∃ c t e, w.heap[q.1]? = some (.cells c t e) ∧ q.2 c) :
    Calls Go.Proofs.Tryd.prog 3 #[.string x0] w (fun e w' => e = .returned (.bool true) ∧ Below w.heap.size w w') :=
  call_top laws_FnExactHelloText.ok (ps := [.str x0]) (cs := [.str x0]) (v := (x0, ())) (r := (true, ())) (s2 := ⟨[], []⟩) (args := [.string x0]) (⟨_, _, rfl, rfl, rfl⟩) (by kernel_rfl) (by kernel_rfl) (Q x0 g0) (by kernel_rfl) ht
end Go.Ab.FnExactHelloText
