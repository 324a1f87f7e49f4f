/- The law FnSerialBytes: its plain statement, over the evaluator's function, and that the call follows from it. -/
import Derived.Test.YtaopkodopglgeaaAbFnSerialBytes
namespace Go.Ab.FnSerialBytes
open Go.RowKit
set_option linter.unusedVariables false
set_option maxRecDepth 100000
def laws_FnSerialBytes.Pure : Prop := ∀ (x0 : ((.slice (.int .u8)) : Ty).val), good (.slice (.int .u8)) x0 → laws_FnSerialBytes x0 = some (true, ())
theorem laws_FnSerialBytes.walk (Q : laws_FnSerialBytes.Pure) (x0 : ((.slice (.int .u8)) : Ty).val) (w : World) {v0 : Value} (r0 : RepC w (topS w .imm) (.slice (.int .u8)) x0 [v0]) (g0 : good (.slice (.int .u8)) x0) :
    Calls Go.Proofs.Try.prog 7 #[v0] w (fun e w' => e = .returned (.bool true) ∧ Below w.heap.size w w') :=
  call_top laws_FnSerialBytes.ok (ps := [.sl .imm (.int .u8) x0]) (cs := [.sl .imm (.int .u8) x0]) (v := (x0, ())) (r := (true, ())) (s2 := ⟨[], []⟩) (args := [v0]) (⟨_, _, rfl, r0, rfl⟩) (by kernel_rfl) (by kernel_rfl) (Q x0 g0) (by kernel_rfl)
end Go.Ab.FnSerialBytes
