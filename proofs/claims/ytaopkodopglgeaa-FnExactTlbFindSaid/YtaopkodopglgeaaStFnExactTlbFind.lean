/- The law FnExactTlbFind: its plain statement, and that the machine's call follows from it. -/
import Derived.Test.YtaopkodopglgeaaPFnExactTlbFindx7
import Derived.Test.YtaopkodopglgeaaOpensFnExactTlbFind
import Derived.WalkKit
import Derived.KernelRfl
namespace Go.Proofs.Ytaopkodopglgeaa.PFnExactTlbFind
open Go.RowKit Go.Proofs.YtaopkodopglgeaaW.PrintWords Go.Proofs.YtaopkodopglgeaaW.PrintLast Go.Proofs.Ytaopkodopglgeaa.Opens
set_option linter.unusedVariables false
set_option linter.unusedSimpArgs false
def G177 (x : S177) : Prop := ((Lit.int .i64 x.f0).wf = true) ∧ ((Lit.int .i64 x.f1).wf = true) ∧ ((Lit.int .i64 x.f2).wf = true) ∧ ((Lit.int .i64 x.f3).wf = true)
theorem opens177 : Opens Try.prog k177 177 G177 := by
  have h := opens_struct Try.underlying177 (by kernel_rfl) (opensF_iso (fun x : S177 => (x.f0, x.f1, x.f2, x.f3, x.f4)) (fun p => ⟨⟨p.1, p.2.1, p.2.2.1, p.2.2.2.1, p.2.2.2.2⟩, rfl⟩) (opensF_cons rfl (opens_int Try.underlying2 (by kernel_rfl)) (opensF_cons rfl (opens_int Try.underlying2 (by kernel_rfl)) (opensF_cons rfl (opens_int Try.underlying2 (by kernel_rfl)) (opensF_cons rfl (opens_int Try.underlying2 (by kernel_rfl)) (opensF_one rfl (opens_bool Try.underlying4 (by kernel_rfl))))))))
  refine ⟨h.sz, fun enc W fuel cs r hr => ?_⟩
  obtain ⟨x, hK, hG⟩ := h.op enc W fuel cs r hr
  refine ⟨x, hK, ?_⟩
  obtain ⟨g0, g1, g2, g3, g4⟩ := hG
  exact ⟨g0, g1, g2, g3⟩
/-- The plain statement of the law. -/
def laws_FnExactTlbFind.Pure : Prop := ∀ (l0_0 : List S177) (a0_1 : Int) (a1 : Int) (a2 : Int) (a3 : Int) (a4 : Bool), (l0_0.length ≤ maxLen ∧ ∀ y ∈ l0_0, G177 y) → ((Lit.int .i64 a0_1).wf = true) → ((Lit.int .i64 a1).wf = true) → ((Lit.int .i64 a2).wf = true) → ((Lit.int .i64 a3).wf = true) → ∃ k, laws_FnExactTlbFind.f k l0_0 a0_1 a1 a2 a3 a4 = some true
theorem laws_FnExactTlbFind.walk (P : laws_FnExactTlbFind.Pure) (A0_0 : Option Addr) (c0_0 : Nat) (l0_0 : List S177) (a0_1 : Int) (a1 : Int) (a2 : Int) (a3 : Int) (a4 : Bool) (w : World) (hr0_0 : Kd.C k177 w A0_0 l0_0.length l0_0) (hc0_0 : l0_0.length ≤ c0_0) (g0_0 : l0_0.length ≤ maxLen ∧ ∀ y ∈ l0_0, G177 y) (g0_1 : (Lit.int .i64 a0_1).wf = true) (g1 : (Lit.int .i64 a1).wf = true) (g2 : (Lit.int .i64 a2).wf = true) (g3 : (Lit.int .i64 a3).wf = true) :
    Calls Try.prog 3 #[.agg #[.slice A0_0 l0_0.length c0_0, .int .i64 a0_1], .int .i64 a1, .int .i64 a2, .int .i64 a3, .bool a4] w fun e w' => e = .returned (.bool true) ∧ Below w.heap.size w w' := by
  obtain ⟨k, h⟩ := P l0_0 a0_1 a1 a2 a3 a4 g0_0 g0_1 g1 g2 g3
  refine (laws_FnExactTlbFind.calls k A0_0 c0_0 l0_0 a0_1 a1 a2 a3 a4 true w hr0_0 hc0_0 h).mono ?_
  rintro e w' ⟨rfl, hd⟩
  exact ⟨rfl, hd⟩
end Go.Proofs.Ytaopkodopglgeaa.PFnExactTlbFind
