/-
  No cell of these rows narrows 'for every input' (looked for: loops, veiled, ifaces, maps, wideKeys, modest, calm, conditions, laid).
  DERIVED. THE GIVEN ROWS OF THIS SEAT. 4 by the template 'for every input the law returns true; each argument reads behind the call as it read before'; 0 by the template 'total and deterministic' (their statements: YtcljoifconichaaTotals.lean).
  GIVEN WITH THE SEED: the statements are not yours to turn. If you find one false, say at which input.
  Laid BY PROGRAM, IN A SANDBOX (cutbox-rows.mjs): the forced cells as the released guide's own fill.sh prints them over the translation ecd9234c71323f0e… (all of the seat's roots in one cut). By AI agents, Wed Nov 11 2026. No macro, syntax, notation, axiom, sorry.
-/
import Derived.Test.YtcljoifconichaaChecked
import GoSem.Claim
import GoSem.ClaimJoined
import GoSem.ClaimMapViews
import Derived.JoinedTies
import Derived.KernelRfl
namespace Go.Proofs.Ytcljoifconichaa
/- THE CELL 'sum', in the pinned program and in every row, IS THE sha256 OF THE DUMP (.gsa) THAT YtcljoifconichaaProg.lean LOADS. Nothing in Lean hashes anything: it is a label: what it is worth is what the hold of that sum in a sandbox is worth. -/
noncomputable def Try.pinned : Pinned := { name := "ytcljoifconichaa", sum := "ecd9234c71323f0e1d3d950b85759fa426cf69a262bbde4250a3c6edde7d8015", checked := Try.checked }
namespace Rows
def none {H : Type} : Left H := { results := [], args := [] }

/-- 'laws.FnExactSendFrames': WHATEVER THE INPUT: true; the input reads as it did. -/
def fnExactSendFramesSpec : ChangeSpec := { name := "fnExactSendFrames", fn := fun _ => fun
  | [d1, d2] => { results := [.lit (.bool true)], args := [d1, d2] }
  | _ => none }
def fnExactSendFramesRow : OpenClaim := { program := "ytcljoifconichaa", sum := "ecd9234c71323f0e1d3d950b85759fa426cf69a262bbde4250a3c6edde7d8015", func := "loop.example/g00038/laws.FnExactSendFrames", spec := "fnExactSendFrames", apart := false }
def FnExactSendFramesSaid : Prop := fnExactSendFramesRow.holds Try.pinned (OpenSpec.ofChange fnExactSendFramesSpec)

/-- ITS FALSE NEIGHBOUR: 'it returns false'. Refute it at one input. -/
def fnExactSendFramesWrong : ChangeSpec := { name := "fnExactSendFrames", fn := fun _ => fun
  | [d1, d2] => { results := [.lit (.bool false)], args := [d1, d2] }
  | _ => none }
def FnExactSendFramesWrongFalsely : Prop := fnExactSendFramesRow.holds Try.pinned (OpenSpec.ofChange fnExactSendFramesWrong)

/-- 'laws.FnExactReceiveFrame': WHATEVER THE INPUT: true; the input reads as it did. -/
def fnExactReceiveFrameSpec : ChangeSpec := { name := "fnExactReceiveFrame", fn := fun _ => fun
  | [d1, d2, d3] => { results := [.lit (.bool true)], args := [d1, d2, d3] }
  | _ => none }
def fnExactReceiveFrameRow : OpenClaim := { program := "ytcljoifconichaa", sum := "ecd9234c71323f0e1d3d950b85759fa426cf69a262bbde4250a3c6edde7d8015", func := "loop.example/g00038/laws.FnExactReceiveFrame", spec := "fnExactReceiveFrame", apart := false }
def FnExactReceiveFrameSaid : Prop := fnExactReceiveFrameRow.holds Try.pinned (OpenSpec.ofChange fnExactReceiveFrameSpec)

/-- ITS FALSE NEIGHBOUR: 'it returns false'. Refute it at one input. -/
def fnExactReceiveFrameWrong : ChangeSpec := { name := "fnExactReceiveFrame", fn := fun _ => fun
  | [d1, d2, d3] => { results := [.lit (.bool false)], args := [d1, d2, d3] }
  | _ => none }
def FnExactReceiveFrameWrongFalsely : Prop := fnExactReceiveFrameRow.holds Try.pinned (OpenSpec.ofChange fnExactReceiveFrameWrong)

/-- 'laws.FnDiskKept': WHATEVER THE INPUT: true; the input reads as it did. -/
def fnDiskKeptSpec : ChangeSpec := { name := "fnDiskKept", fn := fun _ => fun
  | [d1, d2] => { results := [.lit (.bool true)], args := [d1, d2] }
  | _ => none }
def fnDiskKeptRow : OpenClaim := { program := "ytcljoifconichaa", sum := "ecd9234c71323f0e1d3d950b85759fa426cf69a262bbde4250a3c6edde7d8015", func := "loop.example/g00038/laws.FnDiskKept", spec := "fnDiskKept", unfollowed := true, recurses := true, apart := false }
def FnDiskKeptSaid : Prop := fnDiskKeptRow.holds Try.pinned (OpenSpec.ofChange fnDiskKeptSpec)

/-- ITS FALSE NEIGHBOUR: 'it returns false'. Refute it at one input. -/
def fnDiskKeptWrong : ChangeSpec := { name := "fnDiskKept", fn := fun _ => fun
  | [d1, d2] => { results := [.lit (.bool false)], args := [d1, d2] }
  | _ => none }
def FnDiskKeptWrongFalsely : Prop := fnDiskKeptRow.holds Try.pinned (OpenSpec.ofChange fnDiskKeptWrong)

/-- 'laws.FnServed': WHATEVER THE INPUT: true; the input reads as it did. -/
def fnServedSpec : ChangeSpec := { name := "fnServed", fn := fun _ => fun
  | [d] => { results := [.lit (.bool true)], args := [d] }
  | _ => none }
def fnServedRow : OpenClaim := { program := "ytcljoifconichaa", sum := "ecd9234c71323f0e1d3d950b85759fa426cf69a262bbde4250a3c6edde7d8015", func := "loop.example/g00038/laws.FnServed", spec := "fnServed", unfollowed := true, recurses := true, apart := false }
def FnServedSaid : Prop := fnServedRow.holds Try.pinned (OpenSpec.ofChange fnServedSpec)

/-- ITS FALSE NEIGHBOUR: 'it returns false'. Refute it at one input. -/
def fnServedWrong : ChangeSpec := { name := "fnServed", fn := fun _ => fun
  | [d] => { results := [.lit (.bool false)], args := [d] }
  | _ => none }
def FnServedWrongFalsely : Prop := fnServedRow.holds Try.pinned (OpenSpec.ofChange fnServedWrong)

/- THE SECOND FORM. 'bulk': how many values and letters a reading holds, each counted each time it is reached (what is shared counts as often as it is met; a slice's spare places count too). A statement '..UptoSaid' is the law's where the arguments, and the package variables that the reading takes, are together of bulk at most 1048576: NARROWER than '..Said'. Prove '..Said' where nothing that the law and all that it calls make is longer than what came in: it says more and counts as full. Else prove '..UptoSaid'. A law counts once. -/
mutual
def uptoBulk {H : Type} : DataW H → Nat
  | .lit (.string bytes) => bytes.length + 1
  | .lit _ => 1
  | .nil => 1
  | .ptr d => uptoBulk d + 1
  | .slice elems spare => uptoBulkAll elems + uptoBulkAll spare + 1
  | .agg parts => uptoBulkAll parts + 1
  | .iface _ d => uptoBulk d + 1
  | .map entries => uptoBulkEntries entries + 1
  | .held _ => 1
def uptoBulkAll {H : Type} : List (DataW H) → Nat
  | [] => 0
  | d :: r => uptoBulk d + uptoBulkAll r
def uptoBulkEntries {H : Type} : List (Lit × DataW H) → Nat
  | [] => 0
  | x :: r => uptoBulkEntry x + uptoBulkEntries r
def uptoBulkEntry {H : Type} : Lit × DataW H → Nat
  | (.string bytes, d) => bytes.length + uptoBulk d + 1
  | (_, d) => uptoBulk d + 1
 end
def uptoSmall : (H : Type) → List (DataW H) → Bool := fun _ ds => decide (uptoBulkAll ds ≤ 1048576)
def OpenSpec.upto (s : _root_.Go.ChangeSpec) : _root_.Go.OpenSpec := { _root_.Go.OpenSpec.ofChange s with cond := some uptoSmall }

/-- 'laws.FnExactSendFrames', WHERE WHAT IT READS IS OF BULK AT MOST 1048576: true; the input reads as it did. -/
def fnExactSendFramesUptoRow : OpenClaim := { program := "ytcljoifconichaa", sum := "ecd9234c71323f0e1d3d950b85759fa426cf69a262bbde4250a3c6edde7d8015", func := "loop.example/g00038/laws.FnExactSendFrames", spec := "fnExactSendFrames", apart := false, narrowed := true }
def FnExactSendFramesUptoSaid : Prop := fnExactSendFramesUptoRow.holds Try.pinned (OpenSpec.upto fnExactSendFramesSpec)

/-- 'laws.FnExactReceiveFrame', WHERE WHAT IT READS IS OF BULK AT MOST 1048576: true; the input reads as it did. -/
def fnExactReceiveFrameUptoRow : OpenClaim := { program := "ytcljoifconichaa", sum := "ecd9234c71323f0e1d3d950b85759fa426cf69a262bbde4250a3c6edde7d8015", func := "loop.example/g00038/laws.FnExactReceiveFrame", spec := "fnExactReceiveFrame", apart := false, narrowed := true }
def FnExactReceiveFrameUptoSaid : Prop := fnExactReceiveFrameUptoRow.holds Try.pinned (OpenSpec.upto fnExactReceiveFrameSpec)

/-- 'laws.FnDiskKept', WHERE WHAT IT READS IS OF BULK AT MOST 1048576: true; the input reads as it did. -/
def fnDiskKeptUptoRow : OpenClaim := { program := "ytcljoifconichaa", sum := "ecd9234c71323f0e1d3d950b85759fa426cf69a262bbde4250a3c6edde7d8015", func := "loop.example/g00038/laws.FnDiskKept", spec := "fnDiskKept", unfollowed := true, recurses := true, apart := false, narrowed := true }
def FnDiskKeptUptoSaid : Prop := fnDiskKeptUptoRow.holds Try.pinned (OpenSpec.upto fnDiskKeptSpec)

/-- 'laws.FnServed', WHERE WHAT IT READS IS OF BULK AT MOST 1048576: true; the input reads as it did. -/
def fnServedUptoRow : OpenClaim := { program := "ytcljoifconichaa", sum := "ecd9234c71323f0e1d3d950b85759fa426cf69a262bbde4250a3c6edde7d8015", func := "loop.example/g00038/laws.FnServed", spec := "fnServed", unfollowed := true, recurses := true, apart := false, narrowed := true }
def FnServedUptoSaid : Prop := fnServedUptoRow.holds Try.pinned (OpenSpec.upto fnServedSpec)

end Rows
end Go.Proofs.Ytcljoifconichaa
