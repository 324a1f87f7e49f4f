/- The law FnExactTakePacked: its plain statement, and that the machine's call follows from it. -/
import Derived.Test.YthcmgjbkmnpibaaPFnExactTakePackedx6
import Derived.Test.YthcmgjbkmnpibaaOpensFnExactTakePacked
import Derived.WalkKit
import Derived.KernelRfl
namespace Go.Proofs.Ythcmgjbkmnpibaa.PFnExactTakePacked
open Go.RowKit Go.Proofs.YthcmgjbkmnpibaaW.PrintWords Go.Proofs.YthcmgjbkmnpibaaW.PrintLast Go.Proofs.Ythcmgjbkmnpibaa.Opens
set_option linter.unusedVariables false
set_option linter.unusedSimpArgs false
/-- The plain statement of the law. -/
def laws_FnExactTakePacked.Pure : Prop := ∀ (a0 : ByteArray) (a1_0 : Int) (a1_1 : Int) (a1_2 : Int) (a1_3 : Bool), (a0.size ≤ 140737488351232) → ((Lit.int .i64 a1_0).wf = true) → ((Lit.int .i64 a1_1).wf = true) → ((Lit.int .i64 a1_2).wf = true) → ∃ k, laws_FnExactTakePacked.f k a0 a1_0 a1_1 a1_2 a1_3 = some true
theorem laws_FnExactTakePacked.walk (P : laws_FnExactTakePacked.Pure) (a0 : ByteArray) (a1_0 : Int) (a1_1 : Int) (a1_2 : Int) (a1_3 : Bool) (w : World)  (g0 : a0.size ≤ 140737488351232) (g1_0 : (Lit.int .i64 a1_0).wf = true) (g1_1 : (Lit.int .i64 a1_1).wf = true) (g1_2 : (Lit.int .i64 a1_2).wf = true) :
    Calls Try.prog 7 #[.string a0, .agg #[.int .i64 a1_0, .int .i64 a1_1, .int .i64 a1_2, .bool a1_3]] w fun e w' => e = .returned (.bool true) ∧ Below w.heap.size w w' := by
  obtain ⟨k, h⟩ := P a0 a1_0 a1_1 a1_2 a1_3 g0 g1_0 g1_1 g1_2
  refine (laws_FnExactTakePacked.calls k a0 a1_0 a1_1 a1_2 a1_3 true w  h).mono ?_
  rintro e w' ⟨rfl, hd⟩
  exact ⟨rfl, hd⟩
end Go.Proofs.Ythcmgjbkmnpibaa.PFnExactTakePacked
