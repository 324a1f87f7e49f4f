/-
  DERIVED. GIVEN WITH THE SEED: THE CARDS: each row of YtbhbcpglepgbbaaDoorRows.lean that lists a variable, with what it lists TIED to the program's text (the seventh form; the later family's looks); each row that meets fmt, with fmt's text TOLD by the authors' own Lean function (tested against real Go, not proved from fmt's source: count such statements apart). THE CARD IS WHAT COUNTS. Prove the row's statement (the work); the ties are given (YtbhbcpglepgbbaaDoorTie.lean); close each card by the builder's one call (the guide's Derived/Test/ToyasCard.lean, 'card_holds'). Laid BY PROGRAM, IN A SANDBOX (cutbox-door.mjs). By AI agents, Wed Nov 11 2026. No macro, syntax, notation, axiom, sorry.
-/
import Derived.Test.YtbhbcpglepgbbaaDoorRows
import GoSem.ClaimSeven
namespace Go.Proofs.YtbhbcpglepgbbaaDoor
namespace Rows

/-- THE TIED CARD OF 'laws.FnExactHelloText'. -/
def fnExactHelloTextCard : Claim7 := { stood := { row := fnExactHelloTextRow, standIns := [], harness := (true, "4bea61b9e94cce1e8d66f33e791e48a8c03500d9e1681661115d3e8562fab4cc"), looks := false }, kinds := [], alts := [], laidByText := true, laidKinds := [.data, .data, .data], laidTests := true, laidLooks := .later }
def FnExactHelloTextCardSaid : Prop := Claim7.holds Tryd.pinned (.plain (OpenSpec.ofChange fnExactHelloTextSpec)) fnExactHelloTextCard

/-- THE TIED CARD OF 'laws.FnExactVmText'. -/
def fnExactVmTextCard : Claim7 := { stood := { row := fnExactVmTextRow, standIns := [], harness := (true, "4bea61b9e94cce1e8d66f33e791e48a8c03500d9e1681661115d3e8562fab4cc"), looks := false }, kinds := [], alts := [], laidByText := true, laidKinds := [.data, .data, .data], laidTests := true, laidLooks := .later }
def FnExactVmTextCardSaid : Prop := Claim7.holds Tryd.pinned (.plain (OpenSpec.ofChange fnExactVmTextSpec)) fnExactVmTextCard

/-- THE TIED CARD OF 'laws.FnExactReadVm'. -/
def fnExactReadVmCard : Claim7 := { stood := { row := fnExactReadVmRow, standIns := [], harness := (true, "4bea61b9e94cce1e8d66f33e791e48a8c03500d9e1681661115d3e8562fab4cc"), looks := false }, kinds := [], alts := [], laidByText := true, laidKinds := [.data, .data, .data, .data, .pinned], laidTests := true, laidLooks := .later }
def FnExactReadVmCardSaid : Prop := Claim7.holds Tryd.pinned (.plain (OpenSpec.ofChange fnExactReadVmSpec)) fnExactReadVmCard

/-- THE TIED CARD OF 'laws.FnVmLines'. -/
def fnVmLinesCard : Claim7 := { stood := { row := fnVmLinesRow, standIns := [], harness := (true, "4bea61b9e94cce1e8d66f33e791e48a8c03500d9e1681661115d3e8562fab4cc"), looks := false }, kinds := [], alts := [], laidByText := true, laidKinds := [.data, .data, .data, .data, .pinned], laidTests := true, laidLooks := .later }
def FnVmLinesCardSaid : Prop := Claim7.holds Tryd.pinned (.plain (OpenSpec.ofChange fnVmLinesSpec)) fnVmLinesCard

/-- THE SECOND FORM's CARD OF 'laws.FnExactHelloText'. -/
def fnExactHelloTextUptoCard : Claim7 := { stood := { row := fnExactHelloTextUptoRow, standIns := [], harness := (true, "4bea61b9e94cce1e8d66f33e791e48a8c03500d9e1681661115d3e8562fab4cc"), looks := false }, kinds := [], alts := [], laidByText := true, laidKinds := [.data, .data, .data], laidTests := true, laidLooks := .later }
def FnExactHelloTextUptoCardSaid : Prop := Claim7.holds Tryd.pinned (.plain (OpenSpec.upto fnExactHelloTextSpec)) fnExactHelloTextUptoCard

/-- THE SECOND FORM's CARD OF 'laws.FnExactVmText'. -/
def fnExactVmTextUptoCard : Claim7 := { stood := { row := fnExactVmTextUptoRow, standIns := [], harness := (true, "4bea61b9e94cce1e8d66f33e791e48a8c03500d9e1681661115d3e8562fab4cc"), looks := false }, kinds := [], alts := [], laidByText := true, laidKinds := [.data, .data, .data], laidTests := true, laidLooks := .later }
def FnExactVmTextUptoCardSaid : Prop := Claim7.holds Tryd.pinned (.plain (OpenSpec.upto fnExactVmTextSpec)) fnExactVmTextUptoCard

/-- THE SECOND FORM's CARD OF 'laws.FnExactReadVm'. -/
def fnExactReadVmUptoCard : Claim7 := { stood := { row := fnExactReadVmUptoRow, standIns := [], harness := (true, "4bea61b9e94cce1e8d66f33e791e48a8c03500d9e1681661115d3e8562fab4cc"), looks := false }, kinds := [], alts := [], laidByText := true, laidKinds := [.data, .data, .data, .data, .pinned], laidTests := true, laidLooks := .later }
def FnExactReadVmUptoCardSaid : Prop := Claim7.holds Tryd.pinned (.plain (OpenSpec.upto fnExactReadVmSpec)) fnExactReadVmUptoCard

/-- THE SECOND FORM's CARD OF 'laws.FnVmLines'. -/
def fnVmLinesUptoCard : Claim7 := { stood := { row := fnVmLinesUptoRow, standIns := [], harness := (true, "4bea61b9e94cce1e8d66f33e791e48a8c03500d9e1681661115d3e8562fab4cc"), looks := false }, kinds := [], alts := [], laidByText := true, laidKinds := [.data, .data, .data, .data, .pinned], laidTests := true, laidLooks := .later }
def FnVmLinesUptoCardSaid : Prop := Claim7.holds Tryd.pinned (.plain (OpenSpec.upto fnVmLinesSpec)) fnVmLinesUptoCard
end Rows
end Go.Proofs.YtbhbcpglepgbbaaDoor
