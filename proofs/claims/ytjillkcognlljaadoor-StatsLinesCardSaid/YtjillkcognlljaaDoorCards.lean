/-
  DERIVED. GIVEN WITH THE SEED: THE CARDS: each row of YtjillkcognlljaaDoorRows.lean that lists a variable, with what it lists TIED to the program's text (the seventh form; the later family's looks); each row that meets fmt, with fmt's text TOLD by the authors' own Lean function (tested against real Go, not proved from fmt's source: count such statements apart). THE CARD IS WHAT COUNTS. Prove the row's statement (the work); the ties are given (YtjillkcognlljaaDoorTie.lean); close each card by the builder's one call (the guide's Derived/Test/ToyasCard.lean, 'card_holds'). Laid BY PROGRAM, IN A SANDBOX (cutbox-door.mjs). By AI agents, Wed Nov 11 2026. No macro, syntax, notation, axiom, sorry.
-/
import Derived.Test.YtjillkcognlljaaDoorRows
import GoSem.ClaimSeven
namespace Go.Proofs.YtjillkcognlljaaDoor
namespace Rows

/-- THE TIED CARD OF 'shuttlelaw30.StatsLines'. -/
def statsLinesCard : Claim7 := { stood := { row := statsLinesRow, standIns := [], harness := (true, "66a23e0d7105cb915625d17c2865e732dedc77a4ebab4a7ed31b6ac916bca4e9"), looks := true }, kinds := [], alts := [], laidByText := true, laidKinds := [.data, .data, .data], laidTests := true, laidLooks := .later }
def StatsLinesCardSaid : Prop := Claim7.holds Tryd.pinned (.plain (OpenSpec.ofChange statsLinesSpec)) statsLinesCard

/-- THE TIED CARD OF 'shuttlelaw30.StatsYields'. -/
def statsYieldsCard : Claim7 := { stood := { row := statsYieldsRow, standIns := [], harness := (true, "66a23e0d7105cb915625d17c2865e732dedc77a4ebab4a7ed31b6ac916bca4e9"), looks := true }, kinds := [], alts := [], laidByText := true, laidKinds := [.data, .data, .data], laidTests := true, laidLooks := .later }
def StatsYieldsCardSaid : Prop := Claim7.holds Tryd.pinned (.plain (OpenSpec.ofChange statsYieldsSpec)) statsYieldsCard

/-- THE TIED CARD OF 'shuttlelaw29.ScriptWrites'. -/
def scriptWritesCard : Claim7 := { stood := { row := scriptWritesRow, standIns := [], harness := (true, "66a23e0d7105cb915625d17c2865e732dedc77a4ebab4a7ed31b6ac916bca4e9"), looks := true }, kinds := [], alts := [], laidByText := true, laidKinds := [.handle], laidTests := true, laidLooks := .later }
def ScriptWritesCardSaid : Prop := Claim7.holds Tryd.pinned (.plain (OpenSpec.ofChange scriptWritesSpec)) scriptWritesCard

/-- THE TIED CARD OF 'shuttlelaw29.ScriptCut'. -/
def scriptCutCard : Claim7 := { stood := { row := scriptCutRow, standIns := [], harness := (true, "66a23e0d7105cb915625d17c2865e732dedc77a4ebab4a7ed31b6ac916bca4e9"), looks := true }, kinds := [], alts := [], laidByText := true, laidKinds := [.handle], laidTests := true, laidLooks := .later }
def ScriptCutCardSaid : Prop := Claim7.holds Tryd.pinned (.plain (OpenSpec.ofChange scriptCutSpec)) scriptCutCard

/-- THE SECOND FORM's CARD OF 'shuttlelaw30.StatsLines'. -/
def statsLinesUptoCard : Claim7 := { stood := { row := statsLinesUptoRow, standIns := [], harness := (true, "66a23e0d7105cb915625d17c2865e732dedc77a4ebab4a7ed31b6ac916bca4e9"), looks := true }, kinds := [], alts := [], laidByText := true, laidKinds := [.data, .data, .data], laidTests := true, laidLooks := .later }
def StatsLinesUptoCardSaid : Prop := Claim7.holds Tryd.pinned (.plain (OpenSpec.upto statsLinesSpec)) statsLinesUptoCard

/-- THE SECOND FORM's CARD OF 'shuttlelaw30.StatsYields'. -/
def statsYieldsUptoCard : Claim7 := { stood := { row := statsYieldsUptoRow, standIns := [], harness := (true, "66a23e0d7105cb915625d17c2865e732dedc77a4ebab4a7ed31b6ac916bca4e9"), looks := true }, kinds := [], alts := [], laidByText := true, laidKinds := [.data, .data, .data], laidTests := true, laidLooks := .later }
def StatsYieldsUptoCardSaid : Prop := Claim7.holds Tryd.pinned (.plain (OpenSpec.upto statsYieldsSpec)) statsYieldsUptoCard

/-- THE SECOND FORM's CARD OF 'shuttlelaw29.ScriptWrites'. -/
def scriptWritesUptoCard : Claim7 := { stood := { row := scriptWritesUptoRow, standIns := [], harness := (true, "66a23e0d7105cb915625d17c2865e732dedc77a4ebab4a7ed31b6ac916bca4e9"), looks := true }, kinds := [], alts := [], laidByText := true, laidKinds := [.handle], laidTests := true, laidLooks := .later }
def ScriptWritesUptoCardSaid : Prop := Claim7.holds Tryd.pinned (.plain (OpenSpec.upto scriptWritesSpec)) scriptWritesUptoCard

/-- THE SECOND FORM's CARD OF 'shuttlelaw29.ScriptCut'. -/
def scriptCutUptoCard : Claim7 := { stood := { row := scriptCutUptoRow, standIns := [], harness := (true, "66a23e0d7105cb915625d17c2865e732dedc77a4ebab4a7ed31b6ac916bca4e9"), looks := true }, kinds := [], alts := [], laidByText := true, laidKinds := [.handle], laidTests := true, laidLooks := .later }
def ScriptCutUptoCardSaid : Prop := Claim7.holds Tryd.pinned (.plain (OpenSpec.upto scriptCutSpec)) scriptCutUptoCard
end Rows
end Go.Proofs.YtjillkcognlljaaDoor
