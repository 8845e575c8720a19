/-
  DERIVED. GIVEN WITH THE SEED: THE CARDS: each row of YticiilolmkbncaaDoorRows.lean that lists a variable, with what it lists TIED to the program's text (the seventh form; the later family's looks); each row that meets fmt, with fmt's text TOLD by the authors' own Lean function (tested against real Go, not proved from fmt's source: count such statements apart). THE CARD IS WHAT COUNTS. Prove the row's statement (the work); the ties are given (YticiilolmkbncaaDoorTie.lean); close each card by the builder's one call (the guide's Derived/Test/ToyasCard.lean, 'card_holds'). Laid BY PROGRAM, IN A SANDBOX (cutbox-door.mjs). By AI agents, Wed Nov 11 2026. No macro, syntax, notation, axiom, sorry.
-/
import Derived.Test.YticiilolmkbncaaDoorRows
import GoSem.ClaimSeven
namespace Go.Proofs.YticiilolmkbncaaDoor
namespace Rows

/-- THE TIED CARD OF 'shuttlelaw09.ViterbiFew'. -/
def viterbiFewCard : Claim7 := { stood := { row := viterbiFewRow, standIns := [], harness := (true, "0ebe49f741b8858a9e612b55fe0a51d4637a24e230c965be29ecb21e1a3421cc"), looks := false }, kinds := [], alts := [], laidByText := true, laidKinds := [.data], laidTests := true, laidLooks := .later }
def ViterbiFewCardSaid : Prop := Claim7.holds Tryd.pinned (.plain (OpenSpec.ofChange viterbiFewSpec)) viterbiFewCard

/-- THE TIED CARD OF 'shuttlelaw09.ViterbiTells'. -/
def viterbiTellsCard : Claim7 := { stood := { row := viterbiTellsRow, standIns := [], harness := (true, "0ebe49f741b8858a9e612b55fe0a51d4637a24e230c965be29ecb21e1a3421cc"), looks := false }, kinds := [], alts := [], laidByText := true, laidKinds := [.data], laidTests := true, laidLooks := .later }
def ViterbiTellsCardSaid : Prop := Claim7.holds Tryd.pinned (.plain (OpenSpec.ofChange viterbiTellsSpec)) viterbiTellsCard

/-- THE TIED CARD OF 'shuttlelaw09.ViterbiBest'. -/
def viterbiBestCard : Claim7 := { stood := { row := viterbiBestRow, standIns := [], harness := (true, "0ebe49f741b8858a9e612b55fe0a51d4637a24e230c965be29ecb21e1a3421cc"), looks := false }, kinds := [], alts := [], laidByText := true, laidKinds := [.data], laidTests := true, laidLooks := .later }
def ViterbiBestCardSaid : Prop := Claim7.holds Tryd.pinned (.plain (OpenSpec.ofChange viterbiBestSpec)) viterbiBestCard

/-- THE TIED CARD OF 'shuttlelaw09.ViterbiMends'. -/
def viterbiMendsCard : Claim7 := { stood := { row := viterbiMendsRow, standIns := [], harness := (true, "0ebe49f741b8858a9e612b55fe0a51d4637a24e230c965be29ecb21e1a3421cc"), looks := false }, kinds := [], alts := [], laidByText := true, laidKinds := [.data], laidTests := true, laidLooks := .later }
def ViterbiMendsCardSaid : Prop := Claim7.holds Tryd.pinned (.plain (OpenSpec.ofChange viterbiMendsSpec)) viterbiMendsCard

/-- THE TIED CARD OF 'shuttlelaw09.ViterbiLong'. -/
def viterbiLongCard : Claim7 := { stood := { row := viterbiLongRow, standIns := [], harness := (true, "0ebe49f741b8858a9e612b55fe0a51d4637a24e230c965be29ecb21e1a3421cc"), looks := false }, kinds := [], alts := [], laidByText := true, laidKinds := [.data], laidTests := true, laidLooks := .later }
def ViterbiLongCardSaid : Prop := Claim7.holds Tryd.pinned (.plain (OpenSpec.ofChange viterbiLongSpec)) viterbiLongCard

/-- THE TIED CARD OF 'shuttlelaw09.ViterbiTwice'. -/
def viterbiTwiceCard : Claim7 := { stood := { row := viterbiTwiceRow, standIns := [], harness := (true, "0ebe49f741b8858a9e612b55fe0a51d4637a24e230c965be29ecb21e1a3421cc"), looks := false }, kinds := [], alts := [], laidByText := true, laidKinds := [.data], laidTests := true, laidLooks := .later }
def ViterbiTwiceCardSaid : Prop := Claim7.holds Tryd.pinned (.plain (OpenSpec.ofChange viterbiTwiceSpec)) viterbiTwiceCard

/-- THE TIED CARD OF 'shuttlelaw13.CombineMends'. -/
def combineMendsCard : Claim7 := { stood := { row := combineMendsRow, standIns := [], harness := (true, "0ebe49f741b8858a9e612b55fe0a51d4637a24e230c965be29ecb21e1a3421cc"), looks := false }, kinds := [], alts := [], laidByText := true, laidKinds := [.data], laidTests := true, laidLooks := .later }
def CombineMendsCardSaid : Prop := Claim7.holds Tryd.pinned (.plain (OpenSpec.ofChange combineMendsSpec)) combineMendsCard

/-- THE TIED CARD OF 'shuttlelaw13.CombineWhole'. -/
def combineWholeCard : Claim7 := { stood := { row := combineWholeRow, standIns := [], harness := (true, "0ebe49f741b8858a9e612b55fe0a51d4637a24e230c965be29ecb21e1a3421cc"), looks := false }, kinds := [], alts := [], laidByText := true, laidKinds := [.data], laidTests := true, laidLooks := .later }
def CombineWholeCardSaid : Prop := Claim7.holds Tryd.pinned (.plain (OpenSpec.ofChange combineWholeSpec)) combineWholeCard

/-- THE TIED CARD OF 'shuttlelaw13.CombineOrder'. -/
def combineOrderCard : Claim7 := { stood := { row := combineOrderRow, standIns := [], harness := (true, "0ebe49f741b8858a9e612b55fe0a51d4637a24e230c965be29ecb21e1a3421cc"), looks := false }, kinds := [], alts := [], laidByText := true, laidKinds := [.data], laidTests := true, laidLooks := .later }
def CombineOrderCardSaid : Prop := Claim7.holds Tryd.pinned (.plain (OpenSpec.ofChange combineOrderSpec)) combineOrderCard

/-- THE TIED CARD OF 'shuttlelaw13.CombineAdds'. -/
def combineAddsCard : Claim7 := { stood := { row := combineAddsRow, standIns := [], harness := (true, "0ebe49f741b8858a9e612b55fe0a51d4637a24e230c965be29ecb21e1a3421cc"), looks := false }, kinds := [], alts := [], laidByText := true, laidKinds := [.data], laidTests := true, laidLooks := .later }
def CombineAddsCardSaid : Prop := Claim7.holds Tryd.pinned (.plain (OpenSpec.ofChange combineAddsSpec)) combineAddsCard

/-- THE SECOND FORM's CARD OF 'shuttlelaw09.ViterbiFew'. -/
def viterbiFewUptoCard : Claim7 := { stood := { row := viterbiFewUptoRow, standIns := [], harness := (true, "0ebe49f741b8858a9e612b55fe0a51d4637a24e230c965be29ecb21e1a3421cc"), looks := false }, kinds := [], alts := [], laidByText := true, laidKinds := [.data], laidTests := true, laidLooks := .later }
def ViterbiFewUptoCardSaid : Prop := Claim7.holds Tryd.pinned (.plain (OpenSpec.upto viterbiFewSpec)) viterbiFewUptoCard

/-- THE SECOND FORM's CARD OF 'shuttlelaw09.ViterbiTells'. -/
def viterbiTellsUptoCard : Claim7 := { stood := { row := viterbiTellsUptoRow, standIns := [], harness := (true, "0ebe49f741b8858a9e612b55fe0a51d4637a24e230c965be29ecb21e1a3421cc"), looks := false }, kinds := [], alts := [], laidByText := true, laidKinds := [.data], laidTests := true, laidLooks := .later }
def ViterbiTellsUptoCardSaid : Prop := Claim7.holds Tryd.pinned (.plain (OpenSpec.upto viterbiTellsSpec)) viterbiTellsUptoCard

/-- THE SECOND FORM's CARD OF 'shuttlelaw09.ViterbiBest'. -/
def viterbiBestUptoCard : Claim7 := { stood := { row := viterbiBestUptoRow, standIns := [], harness := (true, "0ebe49f741b8858a9e612b55fe0a51d4637a24e230c965be29ecb21e1a3421cc"), looks := false }, kinds := [], alts := [], laidByText := true, laidKinds := [.data], laidTests := true, laidLooks := .later }
def ViterbiBestUptoCardSaid : Prop := Claim7.holds Tryd.pinned (.plain (OpenSpec.upto viterbiBestSpec)) viterbiBestUptoCard

/-- THE SECOND FORM's CARD OF 'shuttlelaw09.ViterbiMends'. -/
def viterbiMendsUptoCard : Claim7 := { stood := { row := viterbiMendsUptoRow, standIns := [], harness := (true, "0ebe49f741b8858a9e612b55fe0a51d4637a24e230c965be29ecb21e1a3421cc"), looks := false }, kinds := [], alts := [], laidByText := true, laidKinds := [.data], laidTests := true, laidLooks := .later }
def ViterbiMendsUptoCardSaid : Prop := Claim7.holds Tryd.pinned (.plain (OpenSpec.upto viterbiMendsSpec)) viterbiMendsUptoCard

/-- THE SECOND FORM's CARD OF 'shuttlelaw09.ViterbiLong'. -/
def viterbiLongUptoCard : Claim7 := { stood := { row := viterbiLongUptoRow, standIns := [], harness := (true, "0ebe49f741b8858a9e612b55fe0a51d4637a24e230c965be29ecb21e1a3421cc"), looks := false }, kinds := [], alts := [], laidByText := true, laidKinds := [.data], laidTests := true, laidLooks := .later }
def ViterbiLongUptoCardSaid : Prop := Claim7.holds Tryd.pinned (.plain (OpenSpec.upto viterbiLongSpec)) viterbiLongUptoCard

/-- THE SECOND FORM's CARD OF 'shuttlelaw09.ViterbiTwice'. -/
def viterbiTwiceUptoCard : Claim7 := { stood := { row := viterbiTwiceUptoRow, standIns := [], harness := (true, "0ebe49f741b8858a9e612b55fe0a51d4637a24e230c965be29ecb21e1a3421cc"), looks := false }, kinds := [], alts := [], laidByText := true, laidKinds := [.data], laidTests := true, laidLooks := .later }
def ViterbiTwiceUptoCardSaid : Prop := Claim7.holds Tryd.pinned (.plain (OpenSpec.upto viterbiTwiceSpec)) viterbiTwiceUptoCard

/-- THE SECOND FORM's CARD OF 'shuttlelaw13.CombineMends'. -/
def combineMendsUptoCard : Claim7 := { stood := { row := combineMendsUptoRow, standIns := [], harness := (true, "0ebe49f741b8858a9e612b55fe0a51d4637a24e230c965be29ecb21e1a3421cc"), looks := false }, kinds := [], alts := [], laidByText := true, laidKinds := [.data], laidTests := true, laidLooks := .later }
def CombineMendsUptoCardSaid : Prop := Claim7.holds Tryd.pinned (.plain (OpenSpec.upto combineMendsSpec)) combineMendsUptoCard

/-- THE SECOND FORM's CARD OF 'shuttlelaw13.CombineWhole'. -/
def combineWholeUptoCard : Claim7 := { stood := { row := combineWholeUptoRow, standIns := [], harness := (true, "0ebe49f741b8858a9e612b55fe0a51d4637a24e230c965be29ecb21e1a3421cc"), looks := false }, kinds := [], alts := [], laidByText := true, laidKinds := [.data], laidTests := true, laidLooks := .later }
def CombineWholeUptoCardSaid : Prop := Claim7.holds Tryd.pinned (.plain (OpenSpec.upto combineWholeSpec)) combineWholeUptoCard

/-- THE SECOND FORM's CARD OF 'shuttlelaw13.CombineOrder'. -/
def combineOrderUptoCard : Claim7 := { stood := { row := combineOrderUptoRow, standIns := [], harness := (true, "0ebe49f741b8858a9e612b55fe0a51d4637a24e230c965be29ecb21e1a3421cc"), looks := false }, kinds := [], alts := [], laidByText := true, laidKinds := [.data], laidTests := true, laidLooks := .later }
def CombineOrderUptoCardSaid : Prop := Claim7.holds Tryd.pinned (.plain (OpenSpec.upto combineOrderSpec)) combineOrderUptoCard

/-- THE SECOND FORM's CARD OF 'shuttlelaw13.CombineAdds'. -/
def combineAddsUptoCard : Claim7 := { stood := { row := combineAddsUptoRow, standIns := [], harness := (true, "0ebe49f741b8858a9e612b55fe0a51d4637a24e230c965be29ecb21e1a3421cc"), looks := false }, kinds := [], alts := [], laidByText := true, laidKinds := [.data], laidTests := true, laidLooks := .later }
def CombineAddsUptoCardSaid : Prop := Claim7.holds Tryd.pinned (.plain (OpenSpec.upto combineAddsSpec)) combineAddsUptoCard
end Rows
end Go.Proofs.YticiilolmkbncaaDoor
