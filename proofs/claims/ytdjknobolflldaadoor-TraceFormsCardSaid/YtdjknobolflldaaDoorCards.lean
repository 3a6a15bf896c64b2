/-
  DERIVED. GIVEN WITH THE SEED: THE CARDS: each row of YtdjknobolflldaaDoorRows.lean that lists a variable, with what it lists TIED to the program's text (the seventh form; the later family's looks); each row that meets fmt, with fmt's text TOLD by the authors' own Lean function (tested against real Go, not proved from fmt's source: count such statements apart). THE CARD IS WHAT COUNTS. Prove the row's statement (the work); the ties are given (YtdjknobolflldaaDoorTie.lean); close each card by the builder's one call (the guide's Derived/Test/ToyasCard.lean, 'card_holds'). Laid BY PROGRAM, IN A SANDBOX (cutbox-door.mjs). By AI agents, Wed Nov 11 2026. No macro, syntax, notation, axiom, sorry.
-/
import Derived.Test.YtdjknobolflldaaDoorRows
import GoSem.ClaimSeven
namespace Go.Proofs.YtdjknobolflldaaDoor
namespace Rows

/-- THE TIED CARD OF 'tarpaulinlaw4.ProgNames'. -/
def progNamesCard : Claim7 := { stood := { row := progNamesRow, standIns := [], harness := (true, "b8b21f8779893d5dc00d92e8a539e8768d4d1ee29912146b6226eafb4801cadd"), looks := true }, kinds := [], alts := [], laidByText := true, laidKinds := [.listed, .data], laidTests := true, laidLooks := .later }
def ProgNamesCardSaid : Prop := Claim7.holds Tryd.pinned (.plain (OpenSpec.ofChange progNamesSpec)) progNamesCard

/-- THE TIED CARD OF 'tarpaulinlaw21.TraceTells'. -/
def traceTellsCard : Claim7 := { stood := { row := traceTellsRow, standIns := [], harness := (true, "b8b21f8779893d5dc00d92e8a539e8768d4d1ee29912146b6226eafb4801cadd"), looks := true }, kinds := [], alts := [], laidByText := true, laidKinds := [.data, .data, .data, .data, .sentinel, .sentinel, .listed, .data, .pinned], laidTests := true, laidLooks := .later }
def TraceTellsCardSaid : Prop := Claim7.holds Tryd.pinned (.plain (OpenSpec.ofChange traceTellsSpec)) traceTellsCard

/-- THE TIED CARD OF 'tarpaulinlaw21.TraceBack'. -/
def traceBackCard : Claim7 := { stood := { row := traceBackRow, standIns := [], harness := (true, "b8b21f8779893d5dc00d92e8a539e8768d4d1ee29912146b6226eafb4801cadd"), looks := true }, kinds := [], alts := [], laidByText := true, laidKinds := [.data, .data, .data, .data, .sentinel, .sentinel, .listed, .data, .pinned], laidTests := true, laidLooks := .later }
def TraceBackCardSaid : Prop := Claim7.holds Tryd.pinned (.plain (OpenSpec.ofChange traceBackSpec)) traceBackCard

/-- THE TIED CARD OF 'tarpaulinlaw21.TraceForms'. -/
def traceFormsCard : Claim7 := { stood := { row := traceFormsRow, standIns := [], harness := (true, "b8b21f8779893d5dc00d92e8a539e8768d4d1ee29912146b6226eafb4801cadd"), looks := true }, kinds := [], alts := [], laidByText := true, laidKinds := [.data, .data, .data, .data, .sentinel, .sentinel, .listed, .data, .pinned], laidTests := true, laidLooks := .later }
def TraceFormsCardSaid : Prop := Claim7.holds Tryd.pinned (.plain (OpenSpec.ofChange traceFormsSpec)) traceFormsCard

/-- THE TIED CARD OF 'tarpaulinlaw21.TraceFirst'. -/
def traceFirstCard : Claim7 := { stood := { row := traceFirstRow, standIns := [], harness := (true, "b8b21f8779893d5dc00d92e8a539e8768d4d1ee29912146b6226eafb4801cadd"), looks := true }, kinds := [], alts := [], laidByText := true, laidKinds := [.data, .data, .data, .data, .sentinel, .sentinel, .listed, .data, .pinned], laidTests := true, laidLooks := .later }
def TraceFirstCardSaid : Prop := Claim7.holds Tryd.pinned (.plain (OpenSpec.ofChange traceFirstSpec)) traceFirstCard

/-- THE TIED CARD OF 'tarpaulinlaw21.TraceJoins'. -/
def traceJoinsCard : Claim7 := { stood := { row := traceJoinsRow, standIns := [], harness := (true, "b8b21f8779893d5dc00d92e8a539e8768d4d1ee29912146b6226eafb4801cadd"), looks := true }, kinds := [], alts := [], laidByText := true, laidKinds := [.data, .data, .data, .data, .sentinel, .sentinel, .listed, .data, .pinned], laidTests := true, laidLooks := .later }
def TraceJoinsCardSaid : Prop := Claim7.holds Tryd.pinned (.plain (OpenSpec.ofChange traceJoinsSpec)) traceJoinsCard

/-- THE SECOND FORM's CARD OF 'tarpaulinlaw4.ProgNames'. -/
def progNamesUptoCard : Claim7 := { stood := { row := progNamesUptoRow, standIns := [], harness := (true, "b8b21f8779893d5dc00d92e8a539e8768d4d1ee29912146b6226eafb4801cadd"), looks := true }, kinds := [], alts := [], laidByText := true, laidKinds := [.listed, .data], laidTests := true, laidLooks := .later }
def ProgNamesUptoCardSaid : Prop := Claim7.holds Tryd.pinned (.plain (OpenSpec.upto progNamesSpec)) progNamesUptoCard

/-- THE SECOND FORM's CARD OF 'tarpaulinlaw21.TraceTells'. -/
def traceTellsUptoCard : Claim7 := { stood := { row := traceTellsUptoRow, standIns := [], harness := (true, "b8b21f8779893d5dc00d92e8a539e8768d4d1ee29912146b6226eafb4801cadd"), looks := true }, kinds := [], alts := [], laidByText := true, laidKinds := [.data, .data, .data, .data, .sentinel, .sentinel, .listed, .data, .pinned], laidTests := true, laidLooks := .later }
def TraceTellsUptoCardSaid : Prop := Claim7.holds Tryd.pinned (.plain (OpenSpec.upto traceTellsSpec)) traceTellsUptoCard

/-- THE SECOND FORM's CARD OF 'tarpaulinlaw21.TraceBack'. -/
def traceBackUptoCard : Claim7 := { stood := { row := traceBackUptoRow, standIns := [], harness := (true, "b8b21f8779893d5dc00d92e8a539e8768d4d1ee29912146b6226eafb4801cadd"), looks := true }, kinds := [], alts := [], laidByText := true, laidKinds := [.data, .data, .data, .data, .sentinel, .sentinel, .listed, .data, .pinned], laidTests := true, laidLooks := .later }
def TraceBackUptoCardSaid : Prop := Claim7.holds Tryd.pinned (.plain (OpenSpec.upto traceBackSpec)) traceBackUptoCard

/-- THE SECOND FORM's CARD OF 'tarpaulinlaw21.TraceForms'. -/
def traceFormsUptoCard : Claim7 := { stood := { row := traceFormsUptoRow, standIns := [], harness := (true, "b8b21f8779893d5dc00d92e8a539e8768d4d1ee29912146b6226eafb4801cadd"), looks := true }, kinds := [], alts := [], laidByText := true, laidKinds := [.data, .data, .data, .data, .sentinel, .sentinel, .listed, .data, .pinned], laidTests := true, laidLooks := .later }
def TraceFormsUptoCardSaid : Prop := Claim7.holds Tryd.pinned (.plain (OpenSpec.upto traceFormsSpec)) traceFormsUptoCard

/-- THE SECOND FORM's CARD OF 'tarpaulinlaw21.TraceFirst'. -/
def traceFirstUptoCard : Claim7 := { stood := { row := traceFirstUptoRow, standIns := [], harness := (true, "b8b21f8779893d5dc00d92e8a539e8768d4d1ee29912146b6226eafb4801cadd"), looks := true }, kinds := [], alts := [], laidByText := true, laidKinds := [.data, .data, .data, .data, .sentinel, .sentinel, .listed, .data, .pinned], laidTests := true, laidLooks := .later }
def TraceFirstUptoCardSaid : Prop := Claim7.holds Tryd.pinned (.plain (OpenSpec.upto traceFirstSpec)) traceFirstUptoCard

/-- THE SECOND FORM's CARD OF 'tarpaulinlaw21.TraceJoins'. -/
def traceJoinsUptoCard : Claim7 := { stood := { row := traceJoinsUptoRow, standIns := [], harness := (true, "b8b21f8779893d5dc00d92e8a539e8768d4d1ee29912146b6226eafb4801cadd"), looks := true }, kinds := [], alts := [], laidByText := true, laidKinds := [.data, .data, .data, .data, .sentinel, .sentinel, .listed, .data, .pinned], laidTests := true, laidLooks := .later }
def TraceJoinsUptoCardSaid : Prop := Claim7.holds Tryd.pinned (.plain (OpenSpec.upto traceJoinsSpec)) traceJoinsUptoCard
end Rows
end Go.Proofs.YtdjknobolflldaaDoor
