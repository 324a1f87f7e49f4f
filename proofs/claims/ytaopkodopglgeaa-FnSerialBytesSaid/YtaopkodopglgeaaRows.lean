/-
  No cell of these rows narrows 'for every input' (looked for: loops, veiled, ifaces, maps, wideKeys, modest, calm, conditions, laid).
  DERIVED. THE GIVEN ROWS OF THIS SEAT. 7 by the template 'for every input the law returns true; each argument reads behind the call as it read before'; 0 by the template 'total and deterministic' (their statements: YtaopkodopglgeaaTotals.lean).
  GIVEN WITH THE SEED: the statements are not yours to turn. If you find one false, say at which input.
  Laid BY PROGRAM, IN A SANDBOX (cutbox-rows.mjs): the forced cells as the released guide's own fill.sh prints them over the translation a05c837e6a7dcf5e… (all of the seat's roots in one cut). By AI agents, Wed Nov 11 2026. No macro, syntax, notation, axiom, sorry.
-/
import Derived.Test.YtaopkodopglgeaaChecked
import GoSem.Claim
import GoSem.ClaimJoined
import GoSem.ClaimMapViews
import Derived.JoinedTies
import Derived.KernelRfl
namespace Go.Proofs.Ytaopkodopglgeaa
/- THE CELL 'sum', in the pinned program and in every row, IS THE sha256 OF THE DUMP (.gsa) THAT YtaopkodopglgeaaProg.lean LOADS. Nothing in Lean hashes anything: it is a label: what it is worth is what the hold of that sum in a sandbox is worth. -/
noncomputable def Try.pinned : Pinned := { name := "ytaopkodopglgeaa", sum := "a05c837e6a7dcf5e63c084c44085fb373237e5b5777ef91e123c981af2817b8d", checked := Try.checked }
namespace Rows
def none {H : Type} : Left H := { results := [], args := [] }

/-- 'laws.FnExactTlbFind': WHATEVER THE INPUT: true; the input reads as it did. -/
def fnExactTlbFindSpec : ChangeSpec := { name := "fnExactTlbFind", fn := fun _ => fun
  | [d1, d2, d3, d4, d5] => { results := [.lit (.bool true)], args := [d1, d2, d3, d4, d5] }
  | _ => none }
def fnExactTlbFindRow : OpenClaim := { program := "ytaopkodopglgeaa", sum := "a05c837e6a7dcf5e63c084c44085fb373237e5b5777ef91e123c981af2817b8d", func := "loop.example/g00038/laws.FnExactTlbFind", spec := "fnExactTlbFind", unfollowed := true, recurses := true, apart := false }
def FnExactTlbFindSaid : Prop := fnExactTlbFindRow.holds Try.pinned (OpenSpec.ofChange fnExactTlbFindSpec)

/-- ITS FALSE NEIGHBOUR: 'it returns false'. Refute it at one input. -/
def fnExactTlbFindWrong : ChangeSpec := { name := "fnExactTlbFind", fn := fun _ => fun
  | [d1, d2, d3, d4, d5] => { results := [.lit (.bool false)], args := [d1, d2, d3, d4, d5] }
  | _ => none }
def FnExactTlbFindWrongFalsely : Prop := fnExactTlbFindRow.holds Try.pinned (OpenSpec.ofChange fnExactTlbFindWrong)

/-- 'laws.FnExactTlbFlush': WHATEVER THE INPUT: true; the input reads as it did. -/
def fnExactTlbFlushSpec : ChangeSpec := { name := "fnExactTlbFlush", fn := fun _ => fun
  | [d1, d2, d3] => { results := [.lit (.bool true)], args := [d1, d2, d3] }
  | _ => none }
def fnExactTlbFlushRow : OpenClaim := { program := "ytaopkodopglgeaa", sum := "a05c837e6a7dcf5e63c084c44085fb373237e5b5777ef91e123c981af2817b8d", func := "loop.example/g00038/laws.FnExactTlbFlush", spec := "fnExactTlbFlush", unfollowed := true, recurses := true, apart := false }
def FnExactTlbFlushSaid : Prop := fnExactTlbFlushRow.holds Try.pinned (OpenSpec.ofChange fnExactTlbFlushSpec)

/-- ITS FALSE NEIGHBOUR: 'it returns false'. Refute it at one input. -/
def fnExactTlbFlushWrong : ChangeSpec := { name := "fnExactTlbFlush", fn := fun _ => fun
  | [d1, d2, d3] => { results := [.lit (.bool false)], args := [d1, d2, d3] }
  | _ => none }
def FnExactTlbFlushWrongFalsely : Prop := fnExactTlbFlushRow.holds Try.pinned (OpenSpec.ofChange fnExactTlbFlushWrong)

/-- 'laws.FnCached': WHATEVER THE INPUT: true; the input reads as it did. -/
def fnCachedSpec : ChangeSpec := { name := "fnCached", fn := fun _ => fun
  | [d1, d2] => { results := [.lit (.bool true)], args := [d1, d2] }
  | _ => none }
def fnCachedRow : OpenClaim := { program := "ytaopkodopglgeaa", sum := "a05c837e6a7dcf5e63c084c44085fb373237e5b5777ef91e123c981af2817b8d", func := "loop.example/g00038/laws.FnCached", spec := "fnCached", unfollowed := true, recurses := true, apart := false }
def FnCachedSaid : Prop := fnCachedRow.holds Try.pinned (OpenSpec.ofChange fnCachedSpec)

/-- ITS FALSE NEIGHBOUR: 'it returns false'. Refute it at one input. -/
def fnCachedWrong : ChangeSpec := { name := "fnCached", fn := fun _ => fun
  | [d1, d2] => { results := [.lit (.bool false)], args := [d1, d2] }
  | _ => none }
def FnCachedWrongFalsely : Prop := fnCachedRow.holds Try.pinned (OpenSpec.ofChange fnCachedWrong)

/-- 'laws.FnExactRunSerial': WHATEVER THE INPUT: true; the input reads as it did. -/
def fnExactRunSerialSpec : ChangeSpec := { name := "fnExactRunSerial", fn := fun _ => fun
  | [d1, d2] => { results := [.lit (.bool true)], args := [d1, d2] }
  | _ => none }
def fnExactRunSerialRow : OpenClaim := { program := "ytaopkodopglgeaa", sum := "a05c837e6a7dcf5e63c084c44085fb373237e5b5777ef91e123c981af2817b8d", func := "loop.example/g00038/laws.FnExactRunSerial", spec := "fnExactRunSerial", apart := false }
def FnExactRunSerialSaid : Prop := fnExactRunSerialRow.holds Try.pinned (OpenSpec.ofChange fnExactRunSerialSpec)

/-- ITS FALSE NEIGHBOUR: 'it returns false'. Refute it at one input. -/
def fnExactRunSerialWrong : ChangeSpec := { name := "fnExactRunSerial", fn := fun _ => fun
  | [d1, d2] => { results := [.lit (.bool false)], args := [d1, d2] }
  | _ => none }
def FnExactRunSerialWrongFalsely : Prop := fnExactRunSerialRow.holds Try.pinned (OpenSpec.ofChange fnExactRunSerialWrong)

/-- 'laws.FnSerialBytes': WHATEVER THE INPUT: true; the input reads as it did. -/
def fnSerialBytesSpec : ChangeSpec := { name := "fnSerialBytes", fn := fun _ => fun
  | [d] => { results := [.lit (.bool true)], args := [d] }
  | _ => none }
def fnSerialBytesRow : OpenClaim := { program := "ytaopkodopglgeaa", sum := "a05c837e6a7dcf5e63c084c44085fb373237e5b5777ef91e123c981af2817b8d", func := "loop.example/g00038/laws.FnSerialBytes", spec := "fnSerialBytes", apart := false }
def FnSerialBytesSaid : Prop := fnSerialBytesRow.holds Try.pinned (OpenSpec.ofChange fnSerialBytesSpec)

/-- ITS FALSE NEIGHBOUR: 'it returns false'. Refute it at one input. -/
def fnSerialBytesWrong : ChangeSpec := { name := "fnSerialBytes", fn := fun _ => fun
  | [d] => { results := [.lit (.bool false)], args := [d] }
  | _ => none }
def FnSerialBytesWrongFalsely : Prop := fnSerialBytesRow.holds Try.pinned (OpenSpec.ofChange fnSerialBytesWrong)

/-- 'laws.FnExactRunClock': WHATEVER THE INPUT: true; the input reads as it did. -/
def fnExactRunClockSpec : ChangeSpec := { name := "fnExactRunClock", fn := fun _ => fun
  | [d1, d2] => { results := [.lit (.bool true)], args := [d1, d2] }
  | _ => none }
def fnExactRunClockRow : OpenClaim := { program := "ytaopkodopglgeaa", sum := "a05c837e6a7dcf5e63c084c44085fb373237e5b5777ef91e123c981af2817b8d", func := "loop.example/g00038/laws.FnExactRunClock", spec := "fnExactRunClock", unfollowed := true, recurses := true, apart := false }
def FnExactRunClockSaid : Prop := fnExactRunClockRow.holds Try.pinned (OpenSpec.ofChange fnExactRunClockSpec)

/-- ITS FALSE NEIGHBOUR: 'it returns false'. Refute it at one input. -/
def fnExactRunClockWrong : ChangeSpec := { name := "fnExactRunClock", fn := fun _ => fun
  | [d1, d2] => { results := [.lit (.bool false)], args := [d1, d2] }
  | _ => none }
def FnExactRunClockWrongFalsely : Prop := fnExactRunClockRow.holds Try.pinned (OpenSpec.ofChange fnExactRunClockWrong)

/-- 'laws.FnClockParts': WHATEVER THE INPUT: true; the input reads as it did. -/
def fnClockPartsSpec : ChangeSpec := { name := "fnClockParts", fn := fun _ => fun
  | [d1, d2] => { results := [.lit (.bool true)], args := [d1, d2] }
  | _ => none }
def fnClockPartsRow : OpenClaim := { program := "ytaopkodopglgeaa", sum := "a05c837e6a7dcf5e63c084c44085fb373237e5b5777ef91e123c981af2817b8d", func := "loop.example/g00038/laws.FnClockParts", spec := "fnClockParts", unfollowed := true, recurses := true, apart := false }
def FnClockPartsSaid : Prop := fnClockPartsRow.holds Try.pinned (OpenSpec.ofChange fnClockPartsSpec)

/-- ITS FALSE NEIGHBOUR: 'it returns false'. Refute it at one input. -/
def fnClockPartsWrong : ChangeSpec := { name := "fnClockParts", fn := fun _ => fun
  | [d1, d2] => { results := [.lit (.bool false)], args := [d1, d2] }
  | _ => none }
def FnClockPartsWrongFalsely : Prop := fnClockPartsRow.holds Try.pinned (OpenSpec.ofChange fnClockPartsWrong)

/- THE SECOND FORM. 'bulk': how many values and letters a reading holds, each counted each time it is reached (what is shared counts as often as it is met; a slice's spare places count too). A statement '..UptoSaid' is the law's where the arguments, and the package variables that the reading takes, are together of bulk at most 1048576: NARROWER than '..Said'. Prove '..Said' where nothing that the law and all that it calls make is longer than what came in: it says more and counts as full. Else prove '..UptoSaid'. A law counts once. -/
mutual
def uptoBulk {H : Type} : DataW H → Nat
  | .lit (.string bytes) => bytes.length + 1
  | .lit _ => 1
  | .nil => 1
  | .ptr d => uptoBulk d + 1
  | .slice elems spare => uptoBulkAll elems + uptoBulkAll spare + 1
  | .agg parts => uptoBulkAll parts + 1
  | .iface _ d => uptoBulk d + 1
  | .map entries => uptoBulkEntries entries + 1
  | .held _ => 1
def uptoBulkAll {H : Type} : List (DataW H) → Nat
  | [] => 0
  | d :: r => uptoBulk d + uptoBulkAll r
def uptoBulkEntries {H : Type} : List (Lit × DataW H) → Nat
  | [] => 0
  | x :: r => uptoBulkEntry x + uptoBulkEntries r
def uptoBulkEntry {H : Type} : Lit × DataW H → Nat
  | (.string bytes, d) => bytes.length + uptoBulk d + 1
  | (_, d) => uptoBulk d + 1
 end
def uptoSmall : (H : Type) → List (DataW H) → Bool := fun _ ds => decide (uptoBulkAll ds ≤ 1048576)
def OpenSpec.upto (s : _root_.Go.ChangeSpec) : _root_.Go.OpenSpec := { _root_.Go.OpenSpec.ofChange s with cond := some uptoSmall }

/-- 'laws.FnExactTlbFind', WHERE WHAT IT READS IS OF BULK AT MOST 1048576: true; the input reads as it did. -/
def fnExactTlbFindUptoRow : OpenClaim := { program := "ytaopkodopglgeaa", sum := "a05c837e6a7dcf5e63c084c44085fb373237e5b5777ef91e123c981af2817b8d", func := "loop.example/g00038/laws.FnExactTlbFind", spec := "fnExactTlbFind", unfollowed := true, recurses := true, apart := false, narrowed := true }
def FnExactTlbFindUptoSaid : Prop := fnExactTlbFindUptoRow.holds Try.pinned (OpenSpec.upto fnExactTlbFindSpec)

/-- 'laws.FnExactTlbFlush', WHERE WHAT IT READS IS OF BULK AT MOST 1048576: true; the input reads as it did. -/
def fnExactTlbFlushUptoRow : OpenClaim := { program := "ytaopkodopglgeaa", sum := "a05c837e6a7dcf5e63c084c44085fb373237e5b5777ef91e123c981af2817b8d", func := "loop.example/g00038/laws.FnExactTlbFlush", spec := "fnExactTlbFlush", unfollowed := true, recurses := true, apart := false, narrowed := true }
def FnExactTlbFlushUptoSaid : Prop := fnExactTlbFlushUptoRow.holds Try.pinned (OpenSpec.upto fnExactTlbFlushSpec)

/-- 'laws.FnCached', WHERE WHAT IT READS IS OF BULK AT MOST 1048576: true; the input reads as it did. -/
def fnCachedUptoRow : OpenClaim := { program := "ytaopkodopglgeaa", sum := "a05c837e6a7dcf5e63c084c44085fb373237e5b5777ef91e123c981af2817b8d", func := "loop.example/g00038/laws.FnCached", spec := "fnCached", unfollowed := true, recurses := true, apart := false, narrowed := true }
def FnCachedUptoSaid : Prop := fnCachedUptoRow.holds Try.pinned (OpenSpec.upto fnCachedSpec)

/-- 'laws.FnExactRunSerial', WHERE WHAT IT READS IS OF BULK AT MOST 1048576: true; the input reads as it did. -/
def fnExactRunSerialUptoRow : OpenClaim := { program := "ytaopkodopglgeaa", sum := "a05c837e6a7dcf5e63c084c44085fb373237e5b5777ef91e123c981af2817b8d", func := "loop.example/g00038/laws.FnExactRunSerial", spec := "fnExactRunSerial", apart := false, narrowed := true }
def FnExactRunSerialUptoSaid : Prop := fnExactRunSerialUptoRow.holds Try.pinned (OpenSpec.upto fnExactRunSerialSpec)

/-- 'laws.FnSerialBytes', WHERE WHAT IT READS IS OF BULK AT MOST 1048576: true; the input reads as it did. -/
def fnSerialBytesUptoRow : OpenClaim := { program := "ytaopkodopglgeaa", sum := "a05c837e6a7dcf5e63c084c44085fb373237e5b5777ef91e123c981af2817b8d", func := "loop.example/g00038/laws.FnSerialBytes", spec := "fnSerialBytes", apart := false, narrowed := true }
def FnSerialBytesUptoSaid : Prop := fnSerialBytesUptoRow.holds Try.pinned (OpenSpec.upto fnSerialBytesSpec)

/-- 'laws.FnExactRunClock', WHERE WHAT IT READS IS OF BULK AT MOST 1048576: true; the input reads as it did. -/
def fnExactRunClockUptoRow : OpenClaim := { program := "ytaopkodopglgeaa", sum := "a05c837e6a7dcf5e63c084c44085fb373237e5b5777ef91e123c981af2817b8d", func := "loop.example/g00038/laws.FnExactRunClock", spec := "fnExactRunClock", unfollowed := true, recurses := true, apart := false, narrowed := true }
def FnExactRunClockUptoSaid : Prop := fnExactRunClockUptoRow.holds Try.pinned (OpenSpec.upto fnExactRunClockSpec)

/-- 'laws.FnClockParts', WHERE WHAT IT READS IS OF BULK AT MOST 1048576: true; the input reads as it did. -/
def fnClockPartsUptoRow : OpenClaim := { program := "ytaopkodopglgeaa", sum := "a05c837e6a7dcf5e63c084c44085fb373237e5b5777ef91e123c981af2817b8d", func := "loop.example/g00038/laws.FnClockParts", spec := "fnClockParts", unfollowed := true, recurses := true, apart := false, narrowed := true }
def FnClockPartsUptoSaid : Prop := fnClockPartsUptoRow.holds Try.pinned (OpenSpec.upto fnClockPartsSpec)

end Rows
end Go.Proofs.Ytaopkodopglgeaa
