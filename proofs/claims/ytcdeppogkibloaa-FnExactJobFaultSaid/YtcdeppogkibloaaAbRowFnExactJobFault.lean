/- The row of the law FnExactJobFault: for every input the call returns true and the input reads as it did; it rests on the plain statement laws_FnExactJobFault.Pure, which stands without a condition. -/
import Derived.Test.YtcdeppogkibloaaRows
import Derived.Test.YtcdeppogkibloaaAbStFnExactJobFault
import Derived.Test.YtcdeppogkibloaaPureFnExactJobFault
import Derived.WalkKit
import Derived.ProofKit
import Derived.OpenShut
import Derived.ShutString
import Derived.ChangeOld
import Derived.Below
import Derived.SizedLaws
namespace Go.Proofs.Ytcdeppogkibloaa.fnExactJobFault
open Go.ChangeShapes Go.WideShapes Go.ChangeAt Go.RowKit
open Go.ChangeMaps (open_string shut_string)
open Go.Ab (opens_int opens_bool opens_string opens_slice opens_struct opensF_one opensF_cons Ty good)
open Go.Ab.FnExactJobFault
set_option linter.unusedVariables false
set_option linter.unusedSimpArgs false
theorem own : ownKnob Go.Proofs.Try.prog.godebug = none := by kernel_rfl
theorem laidOut : laidOutB Go.Proofs.Try.prog = true := by kernel_rfl
set_option maxRecDepth 100000 in
theorem lifted (os : Os) (started : os.Started) (H : Type) (enc : TypeId × Value → H) :
    ReturnsInHanded {} Try.checked os 3 .any (Rows.fnExactJobFaultSpec.pre6 enc Try.prog Try.f3 Rows.fnExactJobFaultRow.domain false) (Rows.fnExactJobFaultSpec.post enc Try.prog Try.f3 false true false false) := by
  refine returnsInHanded_of_change_sized (C := Try.checked) own started (by kernel_rfl) Try.func3
    (ChangeSpec.witness6 (enc := enc) (C := Try.checked) false ⟨#[], #[.agg #[.slice none 0 0, .string ByteArray.empty, .int .i64 0, .int .i64 0, .string ByteArray.empty, .string ByteArray.empty]], []⟩ 8 (by kernel_rfl) (by kernel_rfl) (by kernel_rfl) (by kernel_rfl)) ?_
  intro W base args ds gs before hval0 hW hcnd hsz0 _
  have hsz : (DataW.weightsEach Try.prog (Try.f3.params.toList ++ Rows.fnExactJobFaultSpec.plain.varTypes Try.prog) (ds ++ gs)).all (· ≤ reachBytes) = true := hsz0
  have hval : ∀ (j : Nat) t v, Try.f3.params[j]? = some t → args[j]? = some v → Value.okWide Try.prog W .any base t v := hval0
  have hW' := hW
  obtain ⟨p, q, hA0, hV, rfl, hfz, hnd⟩ := hW
  have hA : DataW.TrodAll enc Try.prog W 0 (fun _ => true) true Try.f3.params.toList args.toList ds p := hA0
  rw [Try.params3] at hA hval hsz
  obtain ⟨v0, vs0, d0, ds0, p0, q0, hargs, rfl, rfl, h0, r0⟩ := trodAll_cons hA
  obtain ⟨rfl, rfl, rfl⟩ := trodAll_nil r0
  obtain rfl : args = #[v0] := by cases args; simp_all
  obtain ⟨rfl, rfl⟩ := trodVars_none hV
  have k0 := h0
  have lt0 : ∀ x ∈ p0, x.block < W.heap.size := by obtain ⟨m, hm⟩ := k0; exact DataW.trod_lt m _ _ _ hm
  obtain ⟨x0, cs0, rfl, R0, g0⟩ := Go.Ab.open_agg Go.Proofs.Try.underlying26 (opens_struct Go.Proofs.Try.underlying26 (by kernel_rfl) (opensF_cons rfl (opens_slice Go.Proofs.Try.underlying22 (by kernel_rfl) (opens_struct Go.Proofs.Try.underlying60 (by kernel_rfl) (opensF_cons rfl (opens_string Go.Proofs.Try.underlying9 (by kernel_rfl)) (opensF_cons rfl (opens_string Go.Proofs.Try.underlying9 (by kernel_rfl)) (opensF_cons rfl (opens_slice Go.Proofs.Try.underlying41 (by kernel_rfl) (opens_int Go.Proofs.Try.underlying2 (by kernel_rfl)) (by decide)) (opensF_cons rfl (opens_slice Go.Proofs.Try.underlying42 (by kernel_rfl) (opens_string Go.Proofs.Try.underlying9 (by kernel_rfl)) (by decide)) (opensF_one rfl (opens_slice Go.Proofs.Try.underlying58 (by kernel_rfl) (opens_struct Go.Proofs.Try.underlying89 (by kernel_rfl) (opensF_cons rfl (opens_string Go.Proofs.Try.underlying9 (by kernel_rfl)) (opensF_one rfl (opens_slice Go.Proofs.Try.underlying41 (by kernel_rfl) (opens_int Go.Proofs.Try.underlying2 (by kernel_rfl)) (by decide))))) (by decide)))))))) (by decide)) (opensF_cons rfl (opens_string Go.Proofs.Try.underlying9 (by kernel_rfl)) (opensF_one rfl (opens_struct Go.Proofs.Try.underlying24 (by kernel_rfl) (opensF_cons rfl (opens_int Go.Proofs.Try.underlying2 (by kernel_rfl)) (opensF_cons rfl (opens_int Go.Proofs.Try.underlying2 (by kernel_rfl)) (opensF_cons rfl (opens_string Go.Proofs.Try.underlying9 (by kernel_rfl)) (opensF_one rfl (opens_string Go.Proofs.Try.underlying9 (by kernel_rfl))))))))))) (hval 0 26 v0 rfl rfl) h0
  clear hA0 hval0 hsz0 hsz
  refine (laws_FnExactJobFault.walk Pure.FnExactJobFault x0 W R0 g0).mono fun e W' ⟨he, bel⟩ => ?_
  subst he
  exact ⟨_, rfl, _, _, _, [], _, [], hW', trodAll_mk1 (shut_bool Go.Proofs.Try.underlying4 _), (trodAll_cons_mk (Below.trod laidOut (by kernel_rfl) (of_decide_eq_true (by kernel_rfl)) k0 bel lt0) trodAll_mk0), rfl, bel.frame _, fun h => by cases h⟩
theorem over : Rows.fnExactJobFaultRow.holds Try.pinned (OpenSpec.ofChange Rows.fnExactJobFaultSpec) :=
  OpenClaim.holds_of_wide 3 Try.f3 rfl rfl rfl rfl rfl rfl rfl ⟨rfl, rfl, rfl, rfl, rfl⟩ rfl rfl rfl rfl rfl (by kernel_rfl) Try.func3 (by kernel_rfl)
    (of_decide_eq_true (by kernel_rfl)) (by unfold Func.isWrapper; first | (rw [if_pos (by decide +kernel)]; kernel_rfl) | (rw [if_neg (by decide +kernel)]; exact ⟨rfl, rfl⟩))
    (fun os started H enc _ => lifted os started H enc)
theorem proved : Rows.FnExactJobFaultSaid := over
#print axioms proved
end Go.Proofs.Ytcdeppogkibloaa.fnExactJobFault
namespace Go.Proofs.Ytcdeppogkibloaa
/-- The row, under a short name, for the claim. -/
theorem fnExactJobFault_holds : Rows.FnExactJobFaultSaid := fnExactJobFault.proved
end Go.Proofs.Ytcdeppogkibloaa
