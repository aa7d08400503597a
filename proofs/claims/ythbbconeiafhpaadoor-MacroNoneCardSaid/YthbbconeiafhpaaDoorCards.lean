/-
  DERIVED. GIVEN WITH THE SEED: THE CARDS: each row of YthbbconeiafhpaaDoorRows.lean that lists a variable, with what it lists TIED to the program's text (the seventh form; the later family's looks); each row that meets fmt, with fmt's text TOLD by the authors' own Lean function (tested against real Go, not proved from fmt's source: count such statements apart). THE CARD IS WHAT COUNTS. Prove the row's statement (the work); the ties are given (YthbbconeiafhpaaDoorTie.lean); close each card by the builder's one call (the guide's Derived/Test/ToyasCard.lean, 'card_holds'). Laid BY PROGRAM, IN A SANDBOX (cutbox-door.mjs). By AI agents, Wed Nov 11 2026. No macro, syntax, notation, axiom, sorry.
-/
import Derived.Test.YthbbconeiafhpaaDoorRows
import GoSem.ClaimSeven
namespace Go.Proofs.YthbbconeiafhpaaDoor
namespace Rows

/-- THE TIED CARD OF 'burinlaw03.MacroOrder'. -/
def macroOrderCard : Claim7 := { stood := { row := macroOrderRow, standIns := [], harness := (true, "9336963365a779b09e90bcab9c95d27ba7738ceddd221f22176edf500e40e82d"), looks := true }, kinds := [], alts := [], laidByText := true, laidKinds := [.data], laidTests := true, laidLooks := .later }
def MacroOrderCardSaid : Prop := Claim7.holds Tryd.pinned (.plain (OpenSpec.ofChange macroOrderSpec)) macroOrderCard

/-- THE TIED CARD OF 'burinlaw03.MacroNone'. -/
def macroNoneCard : Claim7 := { stood := { row := macroNoneRow, standIns := [], harness := (true, "9336963365a779b09e90bcab9c95d27ba7738ceddd221f22176edf500e40e82d"), looks := true }, kinds := [], alts := [], laidByText := true, laidKinds := [.data], laidTests := true, laidLooks := .later }
def MacroNoneCardSaid : Prop := Claim7.holds Tryd.pinned (.plain (OpenSpec.ofChange macroNoneSpec)) macroNoneCard

/-- THE TIED CARD OF 'burinlaw20.AsmBack'. -/
def asmBackCard : Claim7 := { stood := { row := asmBackRow, standIns := [], harness := (true, "9336963365a779b09e90bcab9c95d27ba7738ceddd221f22176edf500e40e82d"), looks := true }, kinds := [], alts := [], laidByText := true, laidKinds := [.data, .data, .data, .data, .sentinel, .sentinel, .widerDeep, .data, .data], laidTests := true, laidLooks := .later }
def AsmBackCardSaid : Prop := Claim7.holds Tryd.pinned (.plain (OpenSpec.ofChange asmBackSpec)) asmBackCard

/-- THE TIED CARD OF 'burinlaw20.AsmBoth'. -/
def asmBothCard : Claim7 := { stood := { row := asmBothRow, standIns := [], harness := (true, "9336963365a779b09e90bcab9c95d27ba7738ceddd221f22176edf500e40e82d"), looks := true }, kinds := [], alts := [], laidByText := true, laidKinds := [.data, .data, .data, .data, .sentinel, .sentinel, .widerDeep, .data, .data], laidTests := true, laidLooks := .later }
def AsmBothCardSaid : Prop := Claim7.holds Tryd.pinned (.plain (OpenSpec.ofChange asmBothSpec)) asmBothCard

/-- THE SECOND FORM's CARD OF 'burinlaw03.MacroOrder'. -/
def macroOrderUptoCard : Claim7 := { stood := { row := macroOrderUptoRow, standIns := [], harness := (true, "9336963365a779b09e90bcab9c95d27ba7738ceddd221f22176edf500e40e82d"), looks := true }, kinds := [], alts := [], laidByText := true, laidKinds := [.data], laidTests := true, laidLooks := .later }
def MacroOrderUptoCardSaid : Prop := Claim7.holds Tryd.pinned (.plain (OpenSpec.upto macroOrderSpec)) macroOrderUptoCard

/-- THE SECOND FORM's CARD OF 'burinlaw03.MacroNone'. -/
def macroNoneUptoCard : Claim7 := { stood := { row := macroNoneUptoRow, standIns := [], harness := (true, "9336963365a779b09e90bcab9c95d27ba7738ceddd221f22176edf500e40e82d"), looks := true }, kinds := [], alts := [], laidByText := true, laidKinds := [.data], laidTests := true, laidLooks := .later }
def MacroNoneUptoCardSaid : Prop := Claim7.holds Tryd.pinned (.plain (OpenSpec.upto macroNoneSpec)) macroNoneUptoCard

/-- THE SECOND FORM's CARD OF 'burinlaw20.AsmBack'. -/
def asmBackUptoCard : Claim7 := { stood := { row := asmBackUptoRow, standIns := [], harness := (true, "9336963365a779b09e90bcab9c95d27ba7738ceddd221f22176edf500e40e82d"), looks := true }, kinds := [], alts := [], laidByText := true, laidKinds := [.data, .data, .data, .data, .sentinel, .sentinel, .widerDeep, .data, .data], laidTests := true, laidLooks := .later }
def AsmBackUptoCardSaid : Prop := Claim7.holds Tryd.pinned (.plain (OpenSpec.upto asmBackSpec)) asmBackUptoCard

/-- THE SECOND FORM's CARD OF 'burinlaw20.AsmBoth'. -/
def asmBothUptoCard : Claim7 := { stood := { row := asmBothUptoRow, standIns := [], harness := (true, "9336963365a779b09e90bcab9c95d27ba7738ceddd221f22176edf500e40e82d"), looks := true }, kinds := [], alts := [], laidByText := true, laidKinds := [.data, .data, .data, .data, .sentinel, .sentinel, .widerDeep, .data, .data], laidTests := true, laidLooks := .later }
def AsmBothUptoCardSaid : Prop := Claim7.holds Tryd.pinned (.plain (OpenSpec.upto asmBothSpec)) asmBothUptoCard
end Rows
end Go.Proofs.YthbbconeiafhpaaDoor
