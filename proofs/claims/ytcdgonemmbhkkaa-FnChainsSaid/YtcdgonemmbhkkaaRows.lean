/-
  No cell of these rows narrows 'for every input' (looked for: loops, veiled, ifaces, maps, wideKeys, modest, calm, conditions, laid).
  DERIVED. THE GIVEN ROWS OF THIS SEAT. 5 by the template 'for every input the law returns true; each argument reads behind the call as it read before'; 0 by the template 'total and deterministic' (their statements: YtcdgonemmbhkkaaTotals.lean).
  GIVEN WITH THE SEED: the statements are not yours to turn. If you find one false, say at which input.
  Laid BY PROGRAM, IN A SANDBOX (cutbox-rows.mjs): the forced cells as the released guide's own fill.sh prints them over the translation edcc84040ed2a65d… (all of the seat's roots in one cut). By AI agents, Wed Nov 11 2026. No macro, syntax, notation, axiom, sorry.
-/
import Derived.Test.YtcdgonemmbhkkaaChecked
import GoSem.Claim
import GoSem.ClaimJoined
import GoSem.ClaimMapViews
import Derived.JoinedTies
import Derived.KernelRfl
namespace Go.Proofs.Ytcdgonemmbhkkaa
/- THE CELL 'sum', in the pinned program and in every row, IS THE sha256 OF THE DUMP (.gsa) THAT YtcdgonemmbhkkaaProg.lean LOADS. Nothing in Lean hashes anything: it is a label: what it is worth is what the hold of that sum in a sandbox is worth. -/
noncomputable def Try.pinned : Pinned := { name := "ytcdgonemmbhkkaa", sum := "edcc84040ed2a65d3d98981799cc11d43e5ffacef0241cb7be19fba49d3dc1d8", checked := Try.checked }
namespace Rows
def none {H : Type} : Left H := { results := [], args := [] }

/-- 'laws.FnChains': WHATEVER THE INPUT: true; the input reads as it did. -/
def fnChainsSpec : ChangeSpec := { name := "fnChains", fn := fun _ => fun
  | [d] => { results := [.lit (.bool true)], args := [d] }
  | _ => none }
def fnChainsRow : OpenClaim := { program := "ytcdgonemmbhkkaa", sum := "edcc84040ed2a65d3d98981799cc11d43e5ffacef0241cb7be19fba49d3dc1d8", func := "loop.example/g00038/laws.FnChains", spec := "fnChains", unfollowed := true, recurses := true, apart := false }
def FnChainsSaid : Prop := fnChainsRow.holds Try.pinned (OpenSpec.ofChange fnChainsSpec)

/-- ITS FALSE NEIGHBOUR: 'it returns false'. Refute it at one input. -/
def fnChainsWrong : ChangeSpec := { name := "fnChains", fn := fun _ => fun
  | [d] => { results := [.lit (.bool false)], args := [d] }
  | _ => none }
def FnChainsWrongFalsely : Prop := fnChainsRow.holds Try.pinned (OpenSpec.ofChange fnChainsWrong)

/-- 'laws.FnCached': WHATEVER THE INPUT: true; the input reads as it did. -/
def fnCachedSpec : ChangeSpec := { name := "fnCached", fn := fun _ => fun
  | [d1, d2] => { results := [.lit (.bool true)], args := [d1, d2] }
  | _ => none }
def fnCachedRow : OpenClaim := { program := "ytcdgonemmbhkkaa", sum := "edcc84040ed2a65d3d98981799cc11d43e5ffacef0241cb7be19fba49d3dc1d8", func := "loop.example/g00038/laws.FnCached", spec := "fnCached", unfollowed := true, recurses := true, apart := false }
def FnCachedSaid : Prop := fnCachedRow.holds Try.pinned (OpenSpec.ofChange fnCachedSpec)

/-- ITS FALSE NEIGHBOUR: 'it returns false'. Refute it at one input. -/
def fnCachedWrong : ChangeSpec := { name := "fnCached", fn := fun _ => fun
  | [d1, d2] => { results := [.lit (.bool false)], args := [d1, d2] }
  | _ => none }
def FnCachedWrongFalsely : Prop := fnCachedRow.holds Try.pinned (OpenSpec.ofChange fnCachedWrong)

/-- 'laws.FnExactRunClock': WHATEVER THE INPUT: true; the input reads as it did. -/
def fnExactRunClockSpec : ChangeSpec := { name := "fnExactRunClock", fn := fun _ => fun
  | [d1, d2] => { results := [.lit (.bool true)], args := [d1, d2] }
  | _ => none }
def fnExactRunClockRow : OpenClaim := { program := "ytcdgonemmbhkkaa", sum := "edcc84040ed2a65d3d98981799cc11d43e5ffacef0241cb7be19fba49d3dc1d8", func := "loop.example/g00038/laws.FnExactRunClock", spec := "fnExactRunClock", unfollowed := true, recurses := true, apart := false }
def FnExactRunClockSaid : Prop := fnExactRunClockRow.holds Try.pinned (OpenSpec.ofChange fnExactRunClockSpec)

/-- ITS FALSE NEIGHBOUR: 'it returns false'. Refute it at one input. -/
def fnExactRunClockWrong : ChangeSpec := { name := "fnExactRunClock", fn := fun _ => fun
  | [d1, d2] => { results := [.lit (.bool false)], args := [d1, d2] }
  | _ => none }
def FnExactRunClockWrongFalsely : Prop := fnExactRunClockRow.holds Try.pinned (OpenSpec.ofChange fnExactRunClockWrong)

/-- 'laws.FnClockParts': WHATEVER THE INPUT: true; the input reads as it did. -/
def fnClockPartsSpec : ChangeSpec := { name := "fnClockParts", fn := fun _ => fun
  | [d1, d2] => { results := [.lit (.bool true)], args := [d1, d2] }
  | _ => none }
def fnClockPartsRow : OpenClaim := { program := "ytcdgonemmbhkkaa", sum := "edcc84040ed2a65d3d98981799cc11d43e5ffacef0241cb7be19fba49d3dc1d8", func := "loop.example/g00038/laws.FnClockParts", spec := "fnClockParts", unfollowed := true, recurses := true, apart := false }
def FnClockPartsSaid : Prop := fnClockPartsRow.holds Try.pinned (OpenSpec.ofChange fnClockPartsSpec)

/-- ITS FALSE NEIGHBOUR: 'it returns false'. Refute it at one input. -/
def fnClockPartsWrong : ChangeSpec := { name := "fnClockParts", fn := fun _ => fun
  | [d1, d2] => { results := [.lit (.bool false)], args := [d1, d2] }
  | _ => none }
def FnClockPartsWrongFalsely : Prop := fnClockPartsRow.holds Try.pinned (OpenSpec.ofChange fnClockPartsWrong)

/-- 'laws.FnDiskKept': WHATEVER THE INPUT: true; the input reads as it did. -/
def fnDiskKeptSpec : ChangeSpec := { name := "fnDiskKept", fn := fun _ => fun
  | [d1, d2] => { results := [.lit (.bool true)], args := [d1, d2] }
  | _ => none }
def fnDiskKeptRow : OpenClaim := { program := "ytcdgonemmbhkkaa", sum := "edcc84040ed2a65d3d98981799cc11d43e5ffacef0241cb7be19fba49d3dc1d8", func := "loop.example/g00038/laws.FnDiskKept", spec := "fnDiskKept", unfollowed := true, recurses := true, apart := false }
def FnDiskKeptSaid : Prop := fnDiskKeptRow.holds Try.pinned (OpenSpec.ofChange fnDiskKeptSpec)

/-- ITS FALSE NEIGHBOUR: 'it returns false'. Refute it at one input. -/
def fnDiskKeptWrong : ChangeSpec := { name := "fnDiskKept", fn := fun _ => fun
  | [d1, d2] => { results := [.lit (.bool false)], args := [d1, d2] }
  | _ => none }
def FnDiskKeptWrongFalsely : Prop := fnDiskKeptRow.holds Try.pinned (OpenSpec.ofChange fnDiskKeptWrong)

/- THE SECOND FORM. 'bulk': how many values and letters a reading holds, each counted each time it is reached (what is shared counts as often as it is met; a slice's spare places count too). A statement '..UptoSaid' is the law's where the arguments, and the package variables that the reading takes, are together of bulk at most 1048576: NARROWER than '..Said'. Prove '..Said' where nothing that the law and all that it calls make is longer than what came in: it says more and counts as full. Else prove '..UptoSaid'. A law counts once. -/
mutual
def uptoBulk {H : Type} : DataW H → Nat
  | .lit (.string bytes) => bytes.length + 1
  | .lit _ => 1
  | .nil => 1
  | .ptr d => uptoBulk d + 1
  | .slice elems spare => uptoBulkAll elems + uptoBulkAll spare + 1
  | .agg parts => uptoBulkAll parts + 1
  | .iface _ d => uptoBulk d + 1
  | .map entries => uptoBulkEntries entries + 1
  | .held _ => 1
def uptoBulkAll {H : Type} : List (DataW H) → Nat
  | [] => 0
  | d :: r => uptoBulk d + uptoBulkAll r
def uptoBulkEntries {H : Type} : List (Lit × DataW H) → Nat
  | [] => 0
  | x :: r => uptoBulkEntry x + uptoBulkEntries r
def uptoBulkEntry {H : Type} : Lit × DataW H → Nat
  | (.string bytes, d) => bytes.length + uptoBulk d + 1
  | (_, d) => uptoBulk d + 1
 end
def uptoSmall : (H : Type) → List (DataW H) → Bool := fun _ ds => decide (uptoBulkAll ds ≤ 1048576)
def OpenSpec.upto (s : _root_.Go.ChangeSpec) : _root_.Go.OpenSpec := { _root_.Go.OpenSpec.ofChange s with cond := some uptoSmall }

/-- 'laws.FnChains', WHERE WHAT IT READS IS OF BULK AT MOST 1048576: true; the input reads as it did. -/
def fnChainsUptoRow : OpenClaim := { program := "ytcdgonemmbhkkaa", sum := "edcc84040ed2a65d3d98981799cc11d43e5ffacef0241cb7be19fba49d3dc1d8", func := "loop.example/g00038/laws.FnChains", spec := "fnChains", unfollowed := true, recurses := true, apart := false, narrowed := true }
def FnChainsUptoSaid : Prop := fnChainsUptoRow.holds Try.pinned (OpenSpec.upto fnChainsSpec)

/-- 'laws.FnCached', WHERE WHAT IT READS IS OF BULK AT MOST 1048576: true; the input reads as it did. -/
def fnCachedUptoRow : OpenClaim := { program := "ytcdgonemmbhkkaa", sum := "edcc84040ed2a65d3d98981799cc11d43e5ffacef0241cb7be19fba49d3dc1d8", func := "loop.example/g00038/laws.FnCached", spec := "fnCached", unfollowed := true, recurses := true, apart := false, narrowed := true }
def FnCachedUptoSaid : Prop := fnCachedUptoRow.holds Try.pinned (OpenSpec.upto fnCachedSpec)

/-- 'laws.FnExactRunClock', WHERE WHAT IT READS IS OF BULK AT MOST 1048576: true; the input reads as it did. -/
def fnExactRunClockUptoRow : OpenClaim := { program := "ytcdgonemmbhkkaa", sum := "edcc84040ed2a65d3d98981799cc11d43e5ffacef0241cb7be19fba49d3dc1d8", func := "loop.example/g00038/laws.FnExactRunClock", spec := "fnExactRunClock", unfollowed := true, recurses := true, apart := false, narrowed := true }
def FnExactRunClockUptoSaid : Prop := fnExactRunClockUptoRow.holds Try.pinned (OpenSpec.upto fnExactRunClockSpec)

/-- 'laws.FnClockParts', WHERE WHAT IT READS IS OF BULK AT MOST 1048576: true; the input reads as it did. -/
def fnClockPartsUptoRow : OpenClaim := { program := "ytcdgonemmbhkkaa", sum := "edcc84040ed2a65d3d98981799cc11d43e5ffacef0241cb7be19fba49d3dc1d8", func := "loop.example/g00038/laws.FnClockParts", spec := "fnClockParts", unfollowed := true, recurses := true, apart := false, narrowed := true }
def FnClockPartsUptoSaid : Prop := fnClockPartsUptoRow.holds Try.pinned (OpenSpec.upto fnClockPartsSpec)

/-- 'laws.FnDiskKept', WHERE WHAT IT READS IS OF BULK AT MOST 1048576: true; the input reads as it did. -/
def fnDiskKeptUptoRow : OpenClaim := { program := "ytcdgonemmbhkkaa", sum := "edcc84040ed2a65d3d98981799cc11d43e5ffacef0241cb7be19fba49d3dc1d8", func := "loop.example/g00038/laws.FnDiskKept", spec := "fnDiskKept", unfollowed := true, recurses := true, apart := false, narrowed := true }
def FnDiskKeptUptoSaid : Prop := fnDiskKeptUptoRow.holds Try.pinned (OpenSpec.upto fnDiskKeptSpec)

end Rows
end Go.Proofs.Ytcdgonemmbhkkaa
