/- The law FnExactGiveChain: its plain statement, and that the machine's call follows from it. -/
import Derived.Test.YthcmgjbkmnpibaaPFnExactGiveChainx4
import Derived.Test.YthcmgjbkmnpibaaOpens
import Derived.WalkKit
import Derived.KernelRfl
namespace Go.Proofs.Ythcmgjbkmnpibaa.PFnExactGiveChain
open Go.RowKit Go.Proofs.YthcmgjbkmnpibaaW.PrintWords Go.Proofs.YthcmgjbkmnpibaaW.PrintLast Go.Proofs.Ythcmgjbkmnpibaa.Opens
set_option linter.unusedVariables false
set_option linter.unusedSimpArgs false
/-- The plain statement of the law. -/
def laws_FnExactGiveChain.Pure : Prop := ∀ (a0 : ByteArray) (a1_0 : Int) (a1_1 : Int) (a1_2 : Int) (a1_3 : Int) (a1_4 : Int) (a1_5 : Int) (a2 : Int) (a3 : Int), (a0.size ≤ 140737488351232) → ((Lit.int .i64 a1_0).wf = true) → ((Lit.int .i64 a1_1).wf = true) → ((Lit.int .i64 a1_2).wf = true) → ((Lit.int .i64 a1_3).wf = true) → ((Lit.int .i64 a1_4).wf = true) → ((Lit.int .i64 a1_5).wf = true) → ((Lit.int .i64 a2).wf = true) → ((Lit.int .i64 a3).wf = true) → ∃ k, laws_FnExactGiveChain.f k a0 a1_0 a1_1 a1_2 a1_3 a1_4 a1_5 a2 a3 = some true
theorem laws_FnExactGiveChain.walk (P : laws_FnExactGiveChain.Pure) (a0 : ByteArray) (a1_0 : Int) (a1_1 : Int) (a1_2 : Int) (a1_3 : Int) (a1_4 : Int) (a1_5 : Int) (a2 : Int) (a3 : Int) (w : World)  (g0 : a0.size ≤ 140737488351232) (g1_0 : (Lit.int .i64 a1_0).wf = true) (g1_1 : (Lit.int .i64 a1_1).wf = true) (g1_2 : (Lit.int .i64 a1_2).wf = true) (g1_3 : (Lit.int .i64 a1_3).wf = true) (g1_4 : (Lit.int .i64 a1_4).wf = true) (g1_5 : (Lit.int .i64 a1_5).wf = true) (g2 : (Lit.int .i64 a2).wf = true) (g3 : (Lit.int .i64 a3).wf = true) :
    Calls Try.prog 6 #[.string a0, .agg #[.int .i64 a1_0, .int .i64 a1_1, .int .i64 a1_2, .int .i64 a1_3, .int .i64 a1_4, .int .i64 a1_5], .int .i64 a2, .int .i64 a3] w fun e w' => e = .returned (.bool true) ∧ Below w.heap.size w w' := by
  obtain ⟨k, h⟩ := P a0 a1_0 a1_1 a1_2 a1_3 a1_4 a1_5 a2 a3 g0 g1_0 g1_1 g1_2 g1_3 g1_4 g1_5 g2 g3
  refine (laws_FnExactGiveChain.calls k a0 a1_0 a1_1 a1_2 a1_3 a1_4 a1_5 a2 a3 true w  h).mono ?_
  rintro e w' ⟨rfl, hd⟩
  exact ⟨rfl, hd⟩
end Go.Proofs.Ythcmgjbkmnpibaa.PFnExactGiveChain
