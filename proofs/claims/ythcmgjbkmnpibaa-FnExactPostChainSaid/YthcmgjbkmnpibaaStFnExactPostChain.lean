/- The law FnExactPostChain: its plain statement, and that the machine's call follows from it. -/
import Derived.Test.YthcmgjbkmnpibaaPFnExactPostChainx7
import Derived.Test.YthcmgjbkmnpibaaOpensFnExactPostChain
import Derived.WalkKit
import Derived.KernelRfl
namespace Go.Proofs.Ythcmgjbkmnpibaa.PFnExactPostChain
open Go.RowKit Go.Proofs.YthcmgjbkmnpibaaW.PrintWords Go.Proofs.YthcmgjbkmnpibaaW.PrintLast Go.Proofs.Ythcmgjbkmnpibaa.Opens
set_option linter.unusedVariables false
set_option linter.unusedSimpArgs false
def G94 (x : S94) : Prop := ((Lit.int .i64 x.f0).wf = true) ∧ ((Lit.int .i64 x.f1).wf = true)
theorem opens94 : Opens Try.prog k94 94 G94 := by
  have h := opens_struct Try.underlying94 (by kernel_rfl) (opensF_iso (fun x : S94 => (x.f0, x.f1, x.f2)) (fun p => ⟨⟨p.1, p.2.1, p.2.2⟩, rfl⟩) (opensF_cons rfl (opens_int Try.underlying2 (by kernel_rfl)) (opensF_cons rfl (opens_int Try.underlying2 (by kernel_rfl)) (opensF_one rfl (opens_bool Try.underlying4 (by kernel_rfl))))))
  refine ⟨h.sz, fun enc W fuel cs r hr => ?_⟩
  obtain ⟨x, hK, hG⟩ := h.op enc W fuel cs r hr
  refine ⟨x, hK, ?_⟩
  obtain ⟨g0, g1, g2⟩ := hG
  exact ⟨g0, g1⟩
/-- The plain statement of the law. -/
def laws_FnExactPostChain.Pure : Prop := ∀ (a0 : ByteArray) (a1_0 : Int) (a1_1 : Int) (a1_2 : Int) (a1_3 : Int) (a1_4 : Int) (a1_5 : Int) (a2 : Int) (l3 : List S94), (a0.size ≤ 140737488351232) → ((Lit.int .i64 a1_0).wf = true) → ((Lit.int .i64 a1_1).wf = true) → ((Lit.int .i64 a1_2).wf = true) → ((Lit.int .i64 a1_3).wf = true) → ((Lit.int .i64 a1_4).wf = true) → ((Lit.int .i64 a1_5).wf = true) → ((Lit.int .i64 a2).wf = true) → (l3.length ≤ maxLen ∧ ∀ y ∈ l3, G94 y) → ∃ k, laws_FnExactPostChain.f k a0 a1_0 a1_1 a1_2 a1_3 a1_4 a1_5 a2 l3 = some true
theorem laws_FnExactPostChain.walk (P : laws_FnExactPostChain.Pure) (a0 : ByteArray) (a1_0 : Int) (a1_1 : Int) (a1_2 : Int) (a1_3 : Int) (a1_4 : Int) (a1_5 : Int) (a2 : Int) (A3 : Option Addr) (c3 : Nat) (l3 : List S94) (w : World) (hr3 : Kd.C k94 w A3 l3.length l3) (hc3 : l3.length ≤ c3) (g0 : a0.size ≤ 140737488351232) (g1_0 : (Lit.int .i64 a1_0).wf = true) (g1_1 : (Lit.int .i64 a1_1).wf = true) (g1_2 : (Lit.int .i64 a1_2).wf = true) (g1_3 : (Lit.int .i64 a1_3).wf = true) (g1_4 : (Lit.int .i64 a1_4).wf = true) (g1_5 : (Lit.int .i64 a1_5).wf = true) (g2 : (Lit.int .i64 a2).wf = true) (g3 : l3.length ≤ maxLen ∧ ∀ y ∈ l3, G94 y) :
    Calls Try.prog 8 #[.string a0, .agg #[.int .i64 a1_0, .int .i64 a1_1, .int .i64 a1_2, .int .i64 a1_3, .int .i64 a1_4, .int .i64 a1_5], .int .i64 a2, .slice A3 l3.length c3] w fun e w' => e = .returned (.bool true) ∧ Below w.heap.size w w' := by
  obtain ⟨k, h⟩ := P a0 a1_0 a1_1 a1_2 a1_3 a1_4 a1_5 a2 l3 g0 g1_0 g1_1 g1_2 g1_3 g1_4 g1_5 g2 g3
  refine (laws_FnExactPostChain.calls k a0 a1_0 a1_1 a1_2 a1_3 a1_4 a1_5 a2 A3 c3 l3 true w hr3 hc3 h).mono ?_
  rintro e w' ⟨rfl, hd⟩
  exact ⟨rfl, hd⟩
end Go.Proofs.Ythcmgjbkmnpibaa.PFnExactPostChain
