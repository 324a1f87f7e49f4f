/-
  No cell of these rows narrows 'for every input' (looked for: loops, veiled, ifaces, maps, wideKeys, modest, calm, conditions, laid).
  DERIVED. THE GIVEN ROWS OF THIS SEAT. 6 by the template 'for every input the law returns true; each argument reads behind the call as it read before'; 0 by the template 'total and deterministic' (their statements: YtohohapkmehfnaaTotals.lean).
  GIVEN WITH THE SEED: the statements are not yours to turn. If you find one false, say at which input.
  Laid BY PROGRAM, IN A SANDBOX (cutbox-rows.mjs): the forced cells as the released guide's own fill.sh prints them over the translation e7a61a33469f2f3a… (all of the seat's roots in one cut). By AI agents, Wed Nov 11 2026. No macro, syntax, notation, axiom, sorry.
-/
import Derived.Test.YtohohapkmehfnaaChecked
import GoSem.Claim
import GoSem.ClaimJoined
import GoSem.ClaimMapViews
import Derived.JoinedTies
import Derived.KernelRfl
namespace Go.Proofs.Ytohohapkmehfnaa
/- THE CELL 'sum', in the pinned program and in every row, IS THE sha256 OF THE DUMP (.gsa) THAT YtohohapkmehfnaaProg.lean LOADS. Nothing in Lean hashes anything: it is a label: what it is worth is what the hold of that sum in a sandbox is worth. -/
noncomputable def Try.pinned : Pinned := { name := "ytohohapkmehfnaa", sum := "e7a61a33469f2f3a47452562e9192788f9195473b204fc2331c091eafe4f706e", checked := Try.checked }
namespace Rows
def none {H : Type} : Left H := { results := [], args := [] }

/-- 'laws.FnExactClusterFault': WHATEVER THE INPUT: true; the input reads as it did. -/
def fnExactClusterFaultSpec : ChangeSpec := { name := "fnExactClusterFault", fn := fun _ => fun
  | [d] => { results := [.lit (.bool true)], args := [d] }
  | _ => none }
def fnExactClusterFaultRow : OpenClaim := { program := "ytohohapkmehfnaa", sum := "e7a61a33469f2f3a47452562e9192788f9195473b204fc2331c091eafe4f706e", func := "loop.example/g00038/laws.FnExactClusterFault", spec := "fnExactClusterFault", unfollowed := true, recurses := true, apart := false }
def FnExactClusterFaultSaid : Prop := fnExactClusterFaultRow.holds Try.pinned (OpenSpec.ofChange fnExactClusterFaultSpec)

/-- ITS FALSE NEIGHBOUR: 'it returns false'. Refute it at one input. -/
def fnExactClusterFaultWrong : ChangeSpec := { name := "fnExactClusterFault", fn := fun _ => fun
  | [d] => { results := [.lit (.bool false)], args := [d] }
  | _ => none }
def FnExactClusterFaultWrongFalsely : Prop := fnExactClusterFaultRow.holds Try.pinned (OpenSpec.ofChange fnExactClusterFaultWrong)

/-- 'laws.FnExactMayHold': WHATEVER THE INPUT: true; the input reads as it did. -/
def fnExactMayHoldSpec : ChangeSpec := { name := "fnExactMayHold", fn := fun _ => fun
  | [d1, d2, d3] => { results := [.lit (.bool true)], args := [d1, d2, d3] }
  | _ => none }
def fnExactMayHoldRow : OpenClaim := { program := "ytohohapkmehfnaa", sum := "e7a61a33469f2f3a47452562e9192788f9195473b204fc2331c091eafe4f706e", func := "loop.example/g00038/laws.FnExactMayHold", spec := "fnExactMayHold", unfollowed := true, recurses := true, apart := false }
def FnExactMayHoldSaid : Prop := fnExactMayHoldRow.holds Try.pinned (OpenSpec.ofChange fnExactMayHoldSpec)

/-- ITS FALSE NEIGHBOUR: 'it returns false'. Refute it at one input. -/
def fnExactMayHoldWrong : ChangeSpec := { name := "fnExactMayHold", fn := fun _ => fun
  | [d1, d2, d3] => { results := [.lit (.bool false)], args := [d1, d2, d3] }
  | _ => none }
def FnExactMayHoldWrongFalsely : Prop := fnExactMayHoldRow.holds Try.pinned (OpenSpec.ofChange fnExactMayHoldWrong)

/-- 'laws.FnExactBestNode': WHATEVER THE INPUT: true; the input reads as it did. -/
def fnExactBestNodeSpec : ChangeSpec := { name := "fnExactBestNode", fn := fun _ => fun
  | [d1, d2] => { results := [.lit (.bool true)], args := [d1, d2] }
  | _ => none }
def fnExactBestNodeRow : OpenClaim := { program := "ytohohapkmehfnaa", sum := "e7a61a33469f2f3a47452562e9192788f9195473b204fc2331c091eafe4f706e", func := "loop.example/g00038/laws.FnExactBestNode", spec := "fnExactBestNode", unfollowed := true, recurses := true, apart := false }
def FnExactBestNodeSaid : Prop := fnExactBestNodeRow.holds Try.pinned (OpenSpec.ofChange fnExactBestNodeSpec)

/-- ITS FALSE NEIGHBOUR: 'it returns false'. Refute it at one input. -/
def fnExactBestNodeWrong : ChangeSpec := { name := "fnExactBestNode", fn := fun _ => fun
  | [d1, d2] => { results := [.lit (.bool false)], args := [d1, d2] }
  | _ => none }
def FnExactBestNodeWrongFalsely : Prop := fnExactBestNodeRow.holds Try.pinned (OpenSpec.ofChange fnExactBestNodeWrong)

/-- 'laws.FnExactManagerFault': WHATEVER THE INPUT: true; the input reads as it did. -/
def fnExactManagerFaultSpec : ChangeSpec := { name := "fnExactManagerFault", fn := fun _ => fun
  | [d] => { results := [.lit (.bool true)], args := [d] }
  | _ => none }
def fnExactManagerFaultRow : OpenClaim := { program := "ytohohapkmehfnaa", sum := "e7a61a33469f2f3a47452562e9192788f9195473b204fc2331c091eafe4f706e", func := "loop.example/g00038/laws.FnExactManagerFault", spec := "fnExactManagerFault", unfollowed := true, recurses := true, apart := false }
def FnExactManagerFaultSaid : Prop := fnExactManagerFaultRow.holds Try.pinned (OpenSpec.ofChange fnExactManagerFaultSpec)

/-- ITS FALSE NEIGHBOUR: 'it returns false'. Refute it at one input. -/
def fnExactManagerFaultWrong : ChangeSpec := { name := "fnExactManagerFault", fn := fun _ => fun
  | [d] => { results := [.lit (.bool false)], args := [d] }
  | _ => none }
def FnExactManagerFaultWrongFalsely : Prop := fnExactManagerFaultRow.holds Try.pinned (OpenSpec.ofChange fnExactManagerFaultWrong)

/-- 'laws.FnDrained': WHATEVER THE INPUT: true; the input reads as it did. -/
def fnDrainedSpec : ChangeSpec := { name := "fnDrained", fn := fun _ => fun
  | [d] => { results := [.lit (.bool true)], args := [d] }
  | _ => none }
def fnDrainedRow : OpenClaim := { program := "ytohohapkmehfnaa", sum := "e7a61a33469f2f3a47452562e9192788f9195473b204fc2331c091eafe4f706e", func := "loop.example/g00038/laws.FnDrained", spec := "fnDrained", inPlace := ["internal/bytealg.abigen_runtime_cmpstring", "slices.overlaps[loop.example/g00038/impl.Vm]"], unfollowed := true, recurses := true, apart := false }
def FnDrainedSaid : Prop := fnDrainedRow.holds Try.pinned (OpenSpec.ofChange fnDrainedSpec)

/-- ITS FALSE NEIGHBOUR: 'it returns false'. Refute it at one input. -/
def fnDrainedWrong : ChangeSpec := { name := "fnDrained", fn := fun _ => fun
  | [d] => { results := [.lit (.bool false)], args := [d] }
  | _ => none }
def FnDrainedWrongFalsely : Prop := fnDrainedRow.holds Try.pinned (OpenSpec.ofChange fnDrainedWrong)

/-- 'laws.FnCluster': WHATEVER THE INPUT: true; the input reads as it did. -/
def fnClusterSpec : ChangeSpec := { name := "fnCluster", fn := fun _ => fun
  | [d] => { results := [.lit (.bool true)], args := [d] }
  | _ => none }
def fnClusterRow : OpenClaim := { program := "ytohohapkmehfnaa", sum := "e7a61a33469f2f3a47452562e9192788f9195473b204fc2331c091eafe4f706e", func := "loop.example/g00038/laws.FnCluster", spec := "fnCluster", inPlace := ["internal/bytealg.abigen_runtime_cmpstring", "slices.overlaps[loop.example/g00038/impl.Vm]"], unfollowed := true, recurses := true, apart := false }
def FnClusterSaid : Prop := fnClusterRow.holds Try.pinned (OpenSpec.ofChange fnClusterSpec)

/-- ITS FALSE NEIGHBOUR: 'it returns false'. Refute it at one input. -/
def fnClusterWrong : ChangeSpec := { name := "fnCluster", fn := fun _ => fun
  | [d] => { results := [.lit (.bool false)], args := [d] }
  | _ => none }
def FnClusterWrongFalsely : Prop := fnClusterRow.holds Try.pinned (OpenSpec.ofChange fnClusterWrong)

/- THE SECOND FORM. 'bulk': how many values and letters a reading holds, each counted each time it is reached (what is shared counts as often as it is met; a slice's spare places count too). A statement '..UptoSaid' is the law's where the arguments, and the package variables that the reading takes, are together of bulk at most 1048576: NARROWER than '..Said'. Prove '..Said' where nothing that the law and all that it calls make is longer than what came in: it says more and counts as full. Else prove '..UptoSaid'. A law counts once. -/
mutual
def uptoBulk {H : Type} : DataW H → Nat
  | .lit (.string bytes) => bytes.length + 1
  | .lit _ => 1
  | .nil => 1
  | .ptr d => uptoBulk d + 1
  | .slice elems spare => uptoBulkAll elems + uptoBulkAll spare + 1
  | .agg parts => uptoBulkAll parts + 1
  | .iface _ d => uptoBulk d + 1
  | .map entries => uptoBulkEntries entries + 1
  | .held _ => 1
def uptoBulkAll {H : Type} : List (DataW H) → Nat
  | [] => 0
  | d :: r => uptoBulk d + uptoBulkAll r
def uptoBulkEntries {H : Type} : List (Lit × DataW H) → Nat
  | [] => 0
  | x :: r => uptoBulkEntry x + uptoBulkEntries r
def uptoBulkEntry {H : Type} : Lit × DataW H → Nat
  | (.string bytes, d) => bytes.length + uptoBulk d + 1
  | (_, d) => uptoBulk d + 1
 end
def uptoSmall : (H : Type) → List (DataW H) → Bool := fun _ ds => decide (uptoBulkAll ds ≤ 1048576)
def OpenSpec.upto (s : _root_.Go.ChangeSpec) : _root_.Go.OpenSpec := { _root_.Go.OpenSpec.ofChange s with cond := some uptoSmall }

/-- 'laws.FnExactClusterFault', WHERE WHAT IT READS IS OF BULK AT MOST 1048576: true; the input reads as it did. -/
def fnExactClusterFaultUptoRow : OpenClaim := { program := "ytohohapkmehfnaa", sum := "e7a61a33469f2f3a47452562e9192788f9195473b204fc2331c091eafe4f706e", func := "loop.example/g00038/laws.FnExactClusterFault", spec := "fnExactClusterFault", unfollowed := true, recurses := true, apart := false, narrowed := true }
def FnExactClusterFaultUptoSaid : Prop := fnExactClusterFaultUptoRow.holds Try.pinned (OpenSpec.upto fnExactClusterFaultSpec)

/-- 'laws.FnExactMayHold', WHERE WHAT IT READS IS OF BULK AT MOST 1048576: true; the input reads as it did. -/
def fnExactMayHoldUptoRow : OpenClaim := { program := "ytohohapkmehfnaa", sum := "e7a61a33469f2f3a47452562e9192788f9195473b204fc2331c091eafe4f706e", func := "loop.example/g00038/laws.FnExactMayHold", spec := "fnExactMayHold", unfollowed := true, recurses := true, apart := false, narrowed := true }
def FnExactMayHoldUptoSaid : Prop := fnExactMayHoldUptoRow.holds Try.pinned (OpenSpec.upto fnExactMayHoldSpec)

/-- 'laws.FnExactBestNode', WHERE WHAT IT READS IS OF BULK AT MOST 1048576: true; the input reads as it did. -/
def fnExactBestNodeUptoRow : OpenClaim := { program := "ytohohapkmehfnaa", sum := "e7a61a33469f2f3a47452562e9192788f9195473b204fc2331c091eafe4f706e", func := "loop.example/g00038/laws.FnExactBestNode", spec := "fnExactBestNode", unfollowed := true, recurses := true, apart := false, narrowed := true }
def FnExactBestNodeUptoSaid : Prop := fnExactBestNodeUptoRow.holds Try.pinned (OpenSpec.upto fnExactBestNodeSpec)

/-- 'laws.FnExactManagerFault', WHERE WHAT IT READS IS OF BULK AT MOST 1048576: true; the input reads as it did. -/
def fnExactManagerFaultUptoRow : OpenClaim := { program := "ytohohapkmehfnaa", sum := "e7a61a33469f2f3a47452562e9192788f9195473b204fc2331c091eafe4f706e", func := "loop.example/g00038/laws.FnExactManagerFault", spec := "fnExactManagerFault", unfollowed := true, recurses := true, apart := false, narrowed := true }
def FnExactManagerFaultUptoSaid : Prop := fnExactManagerFaultUptoRow.holds Try.pinned (OpenSpec.upto fnExactManagerFaultSpec)

/-- 'laws.FnDrained', WHERE WHAT IT READS IS OF BULK AT MOST 1048576: true; the input reads as it did. -/
def fnDrainedUptoRow : OpenClaim := { program := "ytohohapkmehfnaa", sum := "e7a61a33469f2f3a47452562e9192788f9195473b204fc2331c091eafe4f706e", func := "loop.example/g00038/laws.FnDrained", spec := "fnDrained", inPlace := ["internal/bytealg.abigen_runtime_cmpstring", "slices.overlaps[loop.example/g00038/impl.Vm]"], unfollowed := true, recurses := true, apart := false, narrowed := true }
def FnDrainedUptoSaid : Prop := fnDrainedUptoRow.holds Try.pinned (OpenSpec.upto fnDrainedSpec)

/-- 'laws.FnCluster', WHERE WHAT IT READS IS OF BULK AT MOST 1048576: true; the input reads as it did. -/
def fnClusterUptoRow : OpenClaim := { program := "ytohohapkmehfnaa", sum := "e7a61a33469f2f3a47452562e9192788f9195473b204fc2331c091eafe4f706e", func := "loop.example/g00038/laws.FnCluster", spec := "fnCluster", inPlace := ["internal/bytealg.abigen_runtime_cmpstring", "slices.overlaps[loop.example/g00038/impl.Vm]"], unfollowed := true, recurses := true, apart := false, narrowed := true }
def FnClusterUptoSaid : Prop := fnClusterUptoRow.holds Try.pinned (OpenSpec.upto fnClusterSpec)

end Rows
end Go.Proofs.Ytohohapkmehfnaa
