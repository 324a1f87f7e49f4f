/-
  No cell of these rows narrows 'for every input' (looked for: loops, veiled, ifaces, maps, wideKeys, modest, calm, conditions, laid).
  DERIVED. THE GIVEN ROWS OF THIS SEAT. 9 by the template 'for every input the law returns true; each argument reads behind the call as it read before'; 0 by the template 'total and deterministic' (their statements: YthcmgjbkmnpibaaTotals.lean).
  GIVEN WITH THE SEED: the statements are not yours to turn. If you find one false, say at which input.
  Laid BY PROGRAM, IN A SANDBOX (cutbox-rows.mjs): the forced cells as the released guide's own fill.sh prints them over the translation 174d9aa24cf7ccbd… (all of the seat's roots in one cut). By AI agents, Wed Nov 11 2026. No macro, syntax, notation, axiom, sorry.
-/
import Derived.Test.YthcmgjbkmnpibaaChecked
import GoSem.Claim
import GoSem.ClaimJoined
import GoSem.ClaimMapViews
import Derived.JoinedTies
import Derived.KernelRfl
namespace Go.Proofs.Ythcmgjbkmnpibaa
/- THE CELL 'sum', in the pinned program and in every row, IS THE sha256 OF THE DUMP (.gsa) THAT YthcmgjbkmnpibaaProg.lean LOADS. Nothing in Lean hashes anything: it is a label: what it is worth is what the hold of that sum in a sandbox is worth. -/
noncomputable def Try.pinned : Pinned := { name := "ythcmgjbkmnpibaa", sum := "174d9aa24cf7ccbd50899395988783ffbdc6408b5194ebafdd7b9bba957dfeae", checked := Try.checked }
namespace Rows
def none {H : Type} : Left H := { results := [], args := [] }

/-- 'laws.FnExactPackedFault': WHATEVER THE INPUT: true; the input reads as it did. -/
def fnExactPackedFaultSpec : ChangeSpec := { name := "fnExactPackedFault", fn := fun _ => fun
  | [d1, d2] => { results := [.lit (.bool true)], args := [d1, d2] }
  | _ => none }
def fnExactPackedFaultRow : OpenClaim := { program := "ythcmgjbkmnpibaa", sum := "174d9aa24cf7ccbd50899395988783ffbdc6408b5194ebafdd7b9bba957dfeae", func := "loop.example/g00038/laws.FnExactPackedFault", spec := "fnExactPackedFault", apart := false }
def FnExactPackedFaultSaid : Prop := fnExactPackedFaultRow.holds Try.pinned (OpenSpec.ofChange fnExactPackedFaultSpec)

/-- ITS FALSE NEIGHBOUR: 'it returns false'. Refute it at one input. -/
def fnExactPackedFaultWrong : ChangeSpec := { name := "fnExactPackedFault", fn := fun _ => fun
  | [d1, d2] => { results := [.lit (.bool false)], args := [d1, d2] }
  | _ => none }
def FnExactPackedFaultWrongFalsely : Prop := fnExactPackedFaultRow.holds Try.pinned (OpenSpec.ofChange fnExactPackedFaultWrong)

/-- 'laws.FnExactQueueFault': WHATEVER THE INPUT: true; the input reads as it did. -/
def fnExactQueueFaultSpec : ChangeSpec := { name := "fnExactQueueFault", fn := fun _ => fun
  | [d1, d2] => { results := [.lit (.bool true)], args := [d1, d2] }
  | _ => none }
def fnExactQueueFaultRow : OpenClaim := { program := "ythcmgjbkmnpibaa", sum := "174d9aa24cf7ccbd50899395988783ffbdc6408b5194ebafdd7b9bba957dfeae", func := "loop.example/g00038/laws.FnExactQueueFault", spec := "fnExactQueueFault", apart := false }
def FnExactQueueFaultSaid : Prop := fnExactQueueFaultRow.holds Try.pinned (OpenSpec.ofChange fnExactQueueFaultSpec)

/-- ITS FALSE NEIGHBOUR: 'it returns false'. Refute it at one input. -/
def fnExactQueueFaultWrong : ChangeSpec := { name := "fnExactQueueFault", fn := fun _ => fun
  | [d1, d2] => { results := [.lit (.bool false)], args := [d1, d2] }
  | _ => none }
def FnExactQueueFaultWrongFalsely : Prop := fnExactQueueFaultRow.holds Try.pinned (OpenSpec.ofChange fnExactQueueFaultWrong)

/-- 'laws.FnExactGivePacked': WHATEVER THE INPUT: true; the input reads as it did. -/
def fnExactGivePackedSpec : ChangeSpec := { name := "fnExactGivePacked", fn := fun _ => fun
  | [d1, d2, d3, d4, d5] => { results := [.lit (.bool true)], args := [d1, d2, d3, d4, d5] }
  | _ => none }
def fnExactGivePackedRow : OpenClaim := { program := "ythcmgjbkmnpibaa", sum := "174d9aa24cf7ccbd50899395988783ffbdc6408b5194ebafdd7b9bba957dfeae", func := "loop.example/g00038/laws.FnExactGivePacked", spec := "fnExactGivePacked", apart := false }
def FnExactGivePackedSaid : Prop := fnExactGivePackedRow.holds Try.pinned (OpenSpec.ofChange fnExactGivePackedSpec)

/-- ITS FALSE NEIGHBOUR: 'it returns false'. Refute it at one input. -/
def fnExactGivePackedWrong : ChangeSpec := { name := "fnExactGivePacked", fn := fun _ => fun
  | [d1, d2, d3, d4, d5] => { results := [.lit (.bool false)], args := [d1, d2, d3, d4, d5] }
  | _ => none }
def FnExactGivePackedWrongFalsely : Prop := fnExactGivePackedRow.holds Try.pinned (OpenSpec.ofChange fnExactGivePackedWrong)

/-- 'laws.FnExactGiveChain': WHATEVER THE INPUT: true; the input reads as it did. -/
def fnExactGiveChainSpec : ChangeSpec := { name := "fnExactGiveChain", fn := fun _ => fun
  | [d1, d2, d3, d4] => { results := [.lit (.bool true)], args := [d1, d2, d3, d4] }
  | _ => none }
def fnExactGiveChainRow : OpenClaim := { program := "ythcmgjbkmnpibaa", sum := "174d9aa24cf7ccbd50899395988783ffbdc6408b5194ebafdd7b9bba957dfeae", func := "loop.example/g00038/laws.FnExactGiveChain", spec := "fnExactGiveChain", apart := false }
def FnExactGiveChainSaid : Prop := fnExactGiveChainRow.holds Try.pinned (OpenSpec.ofChange fnExactGiveChainSpec)

/-- ITS FALSE NEIGHBOUR: 'it returns false'. Refute it at one input. -/
def fnExactGiveChainWrong : ChangeSpec := { name := "fnExactGiveChain", fn := fun _ => fun
  | [d1, d2, d3, d4] => { results := [.lit (.bool false)], args := [d1, d2, d3, d4] }
  | _ => none }
def FnExactGiveChainWrongFalsely : Prop := fnExactGiveChainRow.holds Try.pinned (OpenSpec.ofChange fnExactGiveChainWrong)

/-- 'laws.FnExactTakePacked': WHATEVER THE INPUT: true; the input reads as it did. -/
def fnExactTakePackedSpec : ChangeSpec := { name := "fnExactTakePacked", fn := fun _ => fun
  | [d1, d2] => { results := [.lit (.bool true)], args := [d1, d2] }
  | _ => none }
def fnExactTakePackedRow : OpenClaim := { program := "ythcmgjbkmnpibaa", sum := "174d9aa24cf7ccbd50899395988783ffbdc6408b5194ebafdd7b9bba957dfeae", func := "loop.example/g00038/laws.FnExactTakePacked", spec := "fnExactTakePacked", apart := false }
def FnExactTakePackedSaid : Prop := fnExactTakePackedRow.holds Try.pinned (OpenSpec.ofChange fnExactTakePackedSpec)

/-- ITS FALSE NEIGHBOUR: 'it returns false'. Refute it at one input. -/
def fnExactTakePackedWrong : ChangeSpec := { name := "fnExactTakePacked", fn := fun _ => fun
  | [d1, d2] => { results := [.lit (.bool false)], args := [d1, d2] }
  | _ => none }
def FnExactTakePackedWrongFalsely : Prop := fnExactTakePackedRow.holds Try.pinned (OpenSpec.ofChange fnExactTakePackedWrong)

/-- 'laws.FnExactPostChain': WHATEVER THE INPUT: true; the input reads as it did. -/
def fnExactPostChainSpec : ChangeSpec := { name := "fnExactPostChain", fn := fun _ => fun
  | [d1, d2, d3, d4] => { results := [.lit (.bool true)], args := [d1, d2, d3, d4] }
  | _ => none }
def fnExactPostChainRow : OpenClaim := { program := "ythcmgjbkmnpibaa", sum := "174d9aa24cf7ccbd50899395988783ffbdc6408b5194ebafdd7b9bba957dfeae", func := "loop.example/g00038/laws.FnExactPostChain", spec := "fnExactPostChain", unfollowed := true, recurses := true, apart := false }
def FnExactPostChainSaid : Prop := fnExactPostChainRow.holds Try.pinned (OpenSpec.ofChange fnExactPostChainSpec)

/-- ITS FALSE NEIGHBOUR: 'it returns false'. Refute it at one input. -/
def fnExactPostChainWrong : ChangeSpec := { name := "fnExactPostChain", fn := fun _ => fun
  | [d1, d2, d3, d4] => { results := [.lit (.bool false)], args := [d1, d2, d3, d4] }
  | _ => none }
def FnExactPostChainWrongFalsely : Prop := fnExactPostChainRow.holds Try.pinned (OpenSpec.ofChange fnExactPostChainWrong)

/-- 'laws.FnExactReadChain': WHATEVER THE INPUT: true; the input reads as it did. -/
def fnExactReadChainSpec : ChangeSpec := { name := "fnExactReadChain", fn := fun _ => fun
  | [d1, d2, d3] => { results := [.lit (.bool true)], args := [d1, d2, d3] }
  | _ => none }
def fnExactReadChainRow : OpenClaim := { program := "ythcmgjbkmnpibaa", sum := "174d9aa24cf7ccbd50899395988783ffbdc6408b5194ebafdd7b9bba957dfeae", func := "loop.example/g00038/laws.FnExactReadChain", spec := "fnExactReadChain", apart := false }
def FnExactReadChainSaid : Prop := fnExactReadChainRow.holds Try.pinned (OpenSpec.ofChange fnExactReadChainSpec)

/-- ITS FALSE NEIGHBOUR: 'it returns false'. Refute it at one input. -/
def fnExactReadChainWrong : ChangeSpec := { name := "fnExactReadChain", fn := fun _ => fun
  | [d1, d2, d3] => { results := [.lit (.bool false)], args := [d1, d2, d3] }
  | _ => none }
def FnExactReadChainWrongFalsely : Prop := fnExactReadChainRow.holds Try.pinned (OpenSpec.ofChange fnExactReadChainWrong)

/-- 'laws.FnExactTakeChain': WHATEVER THE INPUT: true; the input reads as it did. -/
def fnExactTakeChainSpec : ChangeSpec := { name := "fnExactTakeChain", fn := fun _ => fun
  | [d1, d2] => { results := [.lit (.bool true)], args := [d1, d2] }
  | _ => none }
def fnExactTakeChainRow : OpenClaim := { program := "ythcmgjbkmnpibaa", sum := "174d9aa24cf7ccbd50899395988783ffbdc6408b5194ebafdd7b9bba957dfeae", func := "loop.example/g00038/laws.FnExactTakeChain", spec := "fnExactTakeChain", apart := false }
def FnExactTakeChainSaid : Prop := fnExactTakeChainRow.holds Try.pinned (OpenSpec.ofChange fnExactTakeChainSpec)

/-- ITS FALSE NEIGHBOUR: 'it returns false'. Refute it at one input. -/
def fnExactTakeChainWrong : ChangeSpec := { name := "fnExactTakeChain", fn := fun _ => fun
  | [d1, d2] => { results := [.lit (.bool false)], args := [d1, d2] }
  | _ => none }
def FnExactTakeChainWrongFalsely : Prop := fnExactTakeChainRow.holds Try.pinned (OpenSpec.ofChange fnExactTakeChainWrong)

/-- 'laws.FnChains': WHATEVER THE INPUT: true; the input reads as it did. -/
def fnChainsSpec : ChangeSpec := { name := "fnChains", fn := fun _ => fun
  | [d] => { results := [.lit (.bool true)], args := [d] }
  | _ => none }
def fnChainsRow : OpenClaim := { program := "ythcmgjbkmnpibaa", sum := "174d9aa24cf7ccbd50899395988783ffbdc6408b5194ebafdd7b9bba957dfeae", func := "loop.example/g00038/laws.FnChains", spec := "fnChains", unfollowed := true, recurses := true, apart := false }
def FnChainsSaid : Prop := fnChainsRow.holds Try.pinned (OpenSpec.ofChange fnChainsSpec)

/-- ITS FALSE NEIGHBOUR: 'it returns false'. Refute it at one input. -/
def fnChainsWrong : ChangeSpec := { name := "fnChains", fn := fun _ => fun
  | [d] => { results := [.lit (.bool false)], args := [d] }
  | _ => none }
def FnChainsWrongFalsely : Prop := fnChainsRow.holds Try.pinned (OpenSpec.ofChange fnChainsWrong)

/- THE SECOND FORM. 'bulk': how many values and letters a reading holds, each counted each time it is reached (what is shared counts as often as it is met; a slice's spare places count too). A statement '..UptoSaid' is the law's where the arguments, and the package variables that the reading takes, are together of bulk at most 1048576: NARROWER than '..Said'. Prove '..Said' where nothing that the law and all that it calls make is longer than what came in: it says more and counts as full. Else prove '..UptoSaid'. A law counts once. -/
mutual
def uptoBulk {H : Type} : DataW H → Nat
  | .lit (.string bytes) => bytes.length + 1
  | .lit _ => 1
  | .nil => 1
  | .ptr d => uptoBulk d + 1
  | .slice elems spare => uptoBulkAll elems + uptoBulkAll spare + 1
  | .agg parts => uptoBulkAll parts + 1
  | .iface _ d => uptoBulk d + 1
  | .map entries => uptoBulkEntries entries + 1
  | .held _ => 1
def uptoBulkAll {H : Type} : List (DataW H) → Nat
  | [] => 0
  | d :: r => uptoBulk d + uptoBulkAll r
def uptoBulkEntries {H : Type} : List (Lit × DataW H) → Nat
  | [] => 0
  | x :: r => uptoBulkEntry x + uptoBulkEntries r
def uptoBulkEntry {H : Type} : Lit × DataW H → Nat
  | (.string bytes, d) => bytes.length + uptoBulk d + 1
  | (_, d) => uptoBulk d + 1
 end
def uptoSmall : (H : Type) → List (DataW H) → Bool := fun _ ds => decide (uptoBulkAll ds ≤ 1048576)
def OpenSpec.upto (s : _root_.Go.ChangeSpec) : _root_.Go.OpenSpec := { _root_.Go.OpenSpec.ofChange s with cond := some uptoSmall }

/-- 'laws.FnExactPackedFault', WHERE WHAT IT READS IS OF BULK AT MOST 1048576: true; the input reads as it did. -/
def fnExactPackedFaultUptoRow : OpenClaim := { program := "ythcmgjbkmnpibaa", sum := "174d9aa24cf7ccbd50899395988783ffbdc6408b5194ebafdd7b9bba957dfeae", func := "loop.example/g00038/laws.FnExactPackedFault", spec := "fnExactPackedFault", apart := false, narrowed := true }
def FnExactPackedFaultUptoSaid : Prop := fnExactPackedFaultUptoRow.holds Try.pinned (OpenSpec.upto fnExactPackedFaultSpec)

/-- 'laws.FnExactQueueFault', WHERE WHAT IT READS IS OF BULK AT MOST 1048576: true; the input reads as it did. -/
def fnExactQueueFaultUptoRow : OpenClaim := { program := "ythcmgjbkmnpibaa", sum := "174d9aa24cf7ccbd50899395988783ffbdc6408b5194ebafdd7b9bba957dfeae", func := "loop.example/g00038/laws.FnExactQueueFault", spec := "fnExactQueueFault", apart := false, narrowed := true }
def FnExactQueueFaultUptoSaid : Prop := fnExactQueueFaultUptoRow.holds Try.pinned (OpenSpec.upto fnExactQueueFaultSpec)

/-- 'laws.FnExactGivePacked', WHERE WHAT IT READS IS OF BULK AT MOST 1048576: true; the input reads as it did. -/
def fnExactGivePackedUptoRow : OpenClaim := { program := "ythcmgjbkmnpibaa", sum := "174d9aa24cf7ccbd50899395988783ffbdc6408b5194ebafdd7b9bba957dfeae", func := "loop.example/g00038/laws.FnExactGivePacked", spec := "fnExactGivePacked", apart := false, narrowed := true }
def FnExactGivePackedUptoSaid : Prop := fnExactGivePackedUptoRow.holds Try.pinned (OpenSpec.upto fnExactGivePackedSpec)

/-- 'laws.FnExactGiveChain', WHERE WHAT IT READS IS OF BULK AT MOST 1048576: true; the input reads as it did. -/
def fnExactGiveChainUptoRow : OpenClaim := { program := "ythcmgjbkmnpibaa", sum := "174d9aa24cf7ccbd50899395988783ffbdc6408b5194ebafdd7b9bba957dfeae", func := "loop.example/g00038/laws.FnExactGiveChain", spec := "fnExactGiveChain", apart := false, narrowed := true }
def FnExactGiveChainUptoSaid : Prop := fnExactGiveChainUptoRow.holds Try.pinned (OpenSpec.upto fnExactGiveChainSpec)

/-- 'laws.FnExactTakePacked', WHERE WHAT IT READS IS OF BULK AT MOST 1048576: true; the input reads as it did. -/
def fnExactTakePackedUptoRow : OpenClaim := { program := "ythcmgjbkmnpibaa", sum := "174d9aa24cf7ccbd50899395988783ffbdc6408b5194ebafdd7b9bba957dfeae", func := "loop.example/g00038/laws.FnExactTakePacked", spec := "fnExactTakePacked", apart := false, narrowed := true }
def FnExactTakePackedUptoSaid : Prop := fnExactTakePackedUptoRow.holds Try.pinned (OpenSpec.upto fnExactTakePackedSpec)

/-- 'laws.FnExactPostChain', WHERE WHAT IT READS IS OF BULK AT MOST 1048576: true; the input reads as it did. -/
def fnExactPostChainUptoRow : OpenClaim := { program := "ythcmgjbkmnpibaa", sum := "174d9aa24cf7ccbd50899395988783ffbdc6408b5194ebafdd7b9bba957dfeae", func := "loop.example/g00038/laws.FnExactPostChain", spec := "fnExactPostChain", unfollowed := true, recurses := true, apart := false, narrowed := true }
def FnExactPostChainUptoSaid : Prop := fnExactPostChainUptoRow.holds Try.pinned (OpenSpec.upto fnExactPostChainSpec)

/-- 'laws.FnExactReadChain', WHERE WHAT IT READS IS OF BULK AT MOST 1048576: true; the input reads as it did. -/
def fnExactReadChainUptoRow : OpenClaim := { program := "ythcmgjbkmnpibaa", sum := "174d9aa24cf7ccbd50899395988783ffbdc6408b5194ebafdd7b9bba957dfeae", func := "loop.example/g00038/laws.FnExactReadChain", spec := "fnExactReadChain", apart := false, narrowed := true }
def FnExactReadChainUptoSaid : Prop := fnExactReadChainUptoRow.holds Try.pinned (OpenSpec.upto fnExactReadChainSpec)

/-- 'laws.FnExactTakeChain', WHERE WHAT IT READS IS OF BULK AT MOST 1048576: true; the input reads as it did. -/
def fnExactTakeChainUptoRow : OpenClaim := { program := "ythcmgjbkmnpibaa", sum := "174d9aa24cf7ccbd50899395988783ffbdc6408b5194ebafdd7b9bba957dfeae", func := "loop.example/g00038/laws.FnExactTakeChain", spec := "fnExactTakeChain", apart := false, narrowed := true }
def FnExactTakeChainUptoSaid : Prop := fnExactTakeChainUptoRow.holds Try.pinned (OpenSpec.upto fnExactTakeChainSpec)

/-- 'laws.FnChains', WHERE WHAT IT READS IS OF BULK AT MOST 1048576: true; the input reads as it did. -/
def fnChainsUptoRow : OpenClaim := { program := "ythcmgjbkmnpibaa", sum := "174d9aa24cf7ccbd50899395988783ffbdc6408b5194ebafdd7b9bba957dfeae", func := "loop.example/g00038/laws.FnChains", spec := "fnChains", unfollowed := true, recurses := true, apart := false, narrowed := true }
def FnChainsUptoSaid : Prop := fnChainsUptoRow.holds Try.pinned (OpenSpec.upto fnChainsSpec)

end Rows
end Go.Proofs.Ythcmgjbkmnpibaa
