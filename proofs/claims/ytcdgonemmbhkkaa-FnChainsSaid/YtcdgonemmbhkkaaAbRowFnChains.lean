/- The row of the law FnChains: for every input the call returns true and the input reads as it did; it rests on the plain statement laws_FnChains.Pure, which stands without a condition. -/
import Derived.Test.YtcdgonemmbhkkaaRows
import Derived.Test.YtcdgonemmbhkkaaAbStFnChains
import Derived.Test.YtcdgonemmbhkkaaPureFnChains
import Derived.WalkKit
import Derived.ProofKit
import Derived.OpenShut
import Derived.ShutString
import Derived.ChangeOld
import Derived.Below
import Derived.SizedLaws
namespace Go.Proofs.Ytcdgonemmbhkkaa.fnChains
open Go.ChangeShapes Go.WideShapes Go.ChangeAt Go.RowKit
open Go.ChangeMaps (open_string shut_string)
open Go.Ab (opens_int opens_bool opens_string opens_slice opens_struct opensF_one opensF_cons Ty good)
open Go.Ab.FnChains
set_option linter.unusedVariables false
set_option linter.unusedSimpArgs false
theorem own : ownKnob Go.Proofs.Try.prog.godebug = none := by kernel_rfl
theorem laidOut : laidOutB Go.Proofs.Try.prog = true := by kernel_rfl
set_option maxRecDepth 100000 in
theorem lifted (os : Os) (started : os.Started) (H : Type) (enc : TypeId × Value → H) :
    ReturnsInHanded {} Try.checked os 3 .any (Rows.fnChainsSpec.pre6 enc Try.prog Try.f3 Rows.fnChainsRow.domain false) (Rows.fnChainsSpec.post enc Try.prog Try.f3 false true false false) := by
  refine returnsInHanded_of_change_sized (C := Try.checked) own started (by kernel_rfl) Try.func3
    (ChangeSpec.witness6 (enc := enc) (C := Try.checked) false ⟨#[], #[.slice none 0 0], []⟩ 8 (by kernel_rfl) (by kernel_rfl) (by kernel_rfl) (by kernel_rfl)) ?_
  intro W base args ds gs before hval0 hW hcnd hsz0 _
  have hsz : (DataW.weightsEach Try.prog (Try.f3.params.toList ++ Rows.fnChainsSpec.plain.varTypes Try.prog) (ds ++ gs)).all (· ≤ reachBytes) = true := hsz0
  have hval : ∀ (j : Nat) t v, Try.f3.params[j]? = some t → args[j]? = some v → Value.okWide Try.prog W .any base t v := hval0
  have hW' := hW
  obtain ⟨p, q, hA0, hV, rfl, hfz, hnd⟩ := hW
  have hA : DataW.TrodAll enc Try.prog W 0 (fun _ => true) true Try.f3.params.toList args.toList ds p := hA0
  rw [Try.params3] at hA hval hsz
  obtain ⟨v0, vs0, d0, ds0, p0, q0, hargs, rfl, rfl, h0, r0⟩ := trodAll_cons hA
  obtain ⟨rfl, rfl, rfl⟩ := trodAll_nil r0
  obtain rfl : args = #[v0] := by cases args; simp_all
  obtain ⟨rfl, rfl⟩ := trodVars_none hV
  have k0 := h0
  have lt0 : ∀ x ∈ p0, x.block < W.heap.size := by obtain ⟨m, hm⟩ := k0; exact DataW.trod_lt m _ _ _ hm
  obtain ⟨x0, R0, m0, g0⟩ := Go.Ab.open_row Go.Proofs.Try.underlying22 (by kernel_rfl) (opens_int Go.Proofs.Try.underlying5 (by kernel_rfl)) (by decide) (hval 0 22 v0 rfl rfl) h0
  clear hA0 hval0 hsz0 hsz
  refine (laws_FnChains.walk Pure.FnChains x0 W R0 ⟨m0, g0⟩ (fun q hq => by unfold Go.Ab.tabs at hq; cases hq)).mono fun e W' ⟨he, bel⟩ => ?_
  subst he
  exact ⟨_, rfl, _, _, _, [], _, [], hW', trodAll_mk1 (shut_bool Go.Proofs.Try.underlying4 _), (trodAll_cons_mk (Below.trod laidOut (by kernel_rfl) (of_decide_eq_true (by kernel_rfl)) k0 bel lt0) trodAll_mk0), rfl, bel.frame _, fun h => by cases h⟩
theorem over : Rows.fnChainsRow.holds Try.pinned (OpenSpec.ofChange Rows.fnChainsSpec) :=
  OpenClaim.holds_of_wide 3 Try.f3 rfl rfl rfl rfl rfl rfl rfl ⟨rfl, rfl, rfl, rfl, rfl⟩ rfl rfl rfl rfl rfl (by kernel_rfl) Try.func3 (by kernel_rfl)
    (of_decide_eq_true (by kernel_rfl)) (by unfold Func.isWrapper; first | (rw [if_pos (by decide +kernel)]; kernel_rfl) | (rw [if_neg (by decide +kernel)]; exact ⟨rfl, rfl⟩))
    (fun os started H enc _ => lifted os started H enc)
theorem proved : Rows.FnChainsSaid := over
#print axioms proved
end Go.Proofs.Ytcdgonemmbhkkaa.fnChains
namespace Go.Proofs.Ytcdgonemmbhkkaa
/-- The row, under a short name, for the claim. -/
theorem fnChains_holds : Rows.FnChainsSaid := fnChains.proved
end Go.Proofs.Ytcdgonemmbhkkaa
