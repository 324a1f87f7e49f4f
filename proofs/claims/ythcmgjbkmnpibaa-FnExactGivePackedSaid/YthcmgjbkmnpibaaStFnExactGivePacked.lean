/- The law FnExactGivePacked: its plain statement, and that the machine's call follows from it. -/
import Derived.Test.YthcmgjbkmnpibaaPFnExactGivePackedx4
import Derived.Test.YthcmgjbkmnpibaaOpens
import Derived.WalkKit
import Derived.KernelRfl
namespace Go.Proofs.Ythcmgjbkmnpibaa.PFnExactGivePacked
open Go.RowKit Go.Proofs.YthcmgjbkmnpibaaW.PrintWords Go.Proofs.YthcmgjbkmnpibaaW.PrintLast Go.Proofs.Ythcmgjbkmnpibaa.Opens
set_option linter.unusedVariables false
set_option linter.unusedSimpArgs false
/-- The plain statement of the law. -/
def laws_FnExactGivePacked.Pure : Prop := ∀ (a0 : ByteArray) (a1_0 : Int) (a1_1 : Int) (a1_2 : Int) (a1_3 : Bool) (a2 : Int) (a3 : Int) (a4 : Int), (a0.size ≤ 140737488351232) → ((Lit.int .i64 a1_0).wf = true) → ((Lit.int .i64 a1_1).wf = true) → ((Lit.int .i64 a1_2).wf = true) → ((Lit.int .i64 a2).wf = true) → ((Lit.int .i64 a3).wf = true) → ((Lit.int .i64 a4).wf = true) → ∃ k, laws_FnExactGivePacked.f k a0 a1_0 a1_1 a1_2 a1_3 a2 a3 a4 = some true
theorem laws_FnExactGivePacked.walk (P : laws_FnExactGivePacked.Pure) (a0 : ByteArray) (a1_0 : Int) (a1_1 : Int) (a1_2 : Int) (a1_3 : Bool) (a2 : Int) (a3 : Int) (a4 : Int) (w : World)  (g0 : a0.size ≤ 140737488351232) (g1_0 : (Lit.int .i64 a1_0).wf = true) (g1_1 : (Lit.int .i64 a1_1).wf = true) (g1_2 : (Lit.int .i64 a1_2).wf = true) (g2 : (Lit.int .i64 a2).wf = true) (g3 : (Lit.int .i64 a3).wf = true) (g4 : (Lit.int .i64 a4).wf = true) :
    Calls Try.prog 5 #[.string a0, .agg #[.int .i64 a1_0, .int .i64 a1_1, .int .i64 a1_2, .bool a1_3], .int .i64 a2, .int .i64 a3, .int .i64 a4] w fun e w' => e = .returned (.bool true) ∧ Below w.heap.size w w' := by
  obtain ⟨k, h⟩ := P a0 a1_0 a1_1 a1_2 a1_3 a2 a3 a4 g0 g1_0 g1_1 g1_2 g2 g3 g4
  refine (laws_FnExactGivePacked.calls k a0 a1_0 a1_1 a1_2 a1_3 a2 a3 a4 true w  h).mono ?_
  rintro e w' ⟨rfl, hd⟩
  exact ⟨rfl, hd⟩
end Go.Proofs.Ythcmgjbkmnpibaa.PFnExactGivePacked
