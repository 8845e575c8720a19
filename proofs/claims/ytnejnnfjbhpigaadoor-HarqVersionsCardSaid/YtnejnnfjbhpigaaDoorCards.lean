/-
  DERIVED. GIVEN WITH THE SEED: THE CARDS: each row of YtnejnnfjbhpigaaDoorRows.lean that lists a variable, with what it lists TIED to the program's text (the seventh form; the later family's looks); each row that meets fmt, with fmt's text TOLD by the authors' own Lean function (tested against real Go, not proved from fmt's source: count such statements apart). THE CARD IS WHAT COUNTS. Prove the row's statement (the work); the ties are given (YtnejnnfjbhpigaaDoorTie.lean); close each card by the builder's one call (the guide's Derived/Test/ToyasCard.lean, 'card_holds'). Laid BY PROGRAM, IN A SANDBOX (cutbox-door.mjs). By AI agents, Wed Nov 11 2026. No macro, syntax, notation, axiom, sorry.
-/
import Derived.Test.YtnejnnfjbhpigaaDoorRows
import GoSem.ClaimSeven
namespace Go.Proofs.YtnejnnfjbhpigaaDoor
namespace Rows

/-- THE TIED CARD OF 'shuttlelaw17.HarqAlone'. -/
def harqAloneCard : Claim7 := { stood := { row := harqAloneRow, standIns := [], harness := (true, "64370af59184c63706eccbafb895dcc815f182afe080db79e567eef9ec8c010c"), looks := false }, kinds := [], alts := [], laidByText := true, laidKinds := [.data], laidTests := true, laidLooks := .later }
def HarqAloneCardSaid : Prop := Claim7.holds Tryd.pinned (.plain (OpenSpec.ofChange harqAloneSpec)) harqAloneCard

/-- THE TIED CARD OF 'shuttlelaw17.HarqMends'. -/
def harqMendsCard : Claim7 := { stood := { row := harqMendsRow, standIns := [], harness := (true, "64370af59184c63706eccbafb895dcc815f182afe080db79e567eef9ec8c010c"), looks := false }, kinds := [], alts := [], laidByText := true, laidKinds := [.data], laidTests := true, laidLooks := .later }
def HarqMendsCardSaid : Prop := Claim7.holds Tryd.pinned (.plain (OpenSpec.ofChange harqMendsSpec)) harqMendsCard

/-- THE TIED CARD OF 'shuttlelaw17.HarqOffers'. -/
def harqOffersCard : Claim7 := { stood := { row := harqOffersRow, standIns := [], harness := (true, "64370af59184c63706eccbafb895dcc815f182afe080db79e567eef9ec8c010c"), looks := false }, kinds := [], alts := [], laidByText := true, laidKinds := [.data], laidTests := true, laidLooks := .later }
def HarqOffersCardSaid : Prop := Claim7.holds Tryd.pinned (.plain (OpenSpec.ofChange harqOffersSpec)) harqOffersCard

/-- THE TIED CARD OF 'shuttlelaw17.HarqAnew'. -/
def harqAnewCard : Claim7 := { stood := { row := harqAnewRow, standIns := [], harness := (true, "64370af59184c63706eccbafb895dcc815f182afe080db79e567eef9ec8c010c"), looks := false }, kinds := [], alts := [], laidByText := true, laidKinds := [.data], laidTests := true, laidLooks := .later }
def HarqAnewCardSaid : Prop := Claim7.holds Tryd.pinned (.plain (OpenSpec.ofChange harqAnewSpec)) harqAnewCard

/-- THE TIED CARD OF 'shuttlelaw17.HarqVersions'. -/
def harqVersionsCard : Claim7 := { stood := { row := harqVersionsRow, standIns := [], harness := (true, "64370af59184c63706eccbafb895dcc815f182afe080db79e567eef9ec8c010c"), looks := false }, kinds := [], alts := [], laidByText := true, laidKinds := [.data], laidTests := true, laidLooks := .later }
def HarqVersionsCardSaid : Prop := Claim7.holds Tryd.pinned (.plain (OpenSpec.ofChange harqVersionsSpec)) harqVersionsCard

/-- THE SECOND FORM's CARD OF 'shuttlelaw17.HarqAlone'. -/
def harqAloneUptoCard : Claim7 := { stood := { row := harqAloneUptoRow, standIns := [], harness := (true, "64370af59184c63706eccbafb895dcc815f182afe080db79e567eef9ec8c010c"), looks := false }, kinds := [], alts := [], laidByText := true, laidKinds := [.data], laidTests := true, laidLooks := .later }
def HarqAloneUptoCardSaid : Prop := Claim7.holds Tryd.pinned (.plain (OpenSpec.upto harqAloneSpec)) harqAloneUptoCard

/-- THE SECOND FORM's CARD OF 'shuttlelaw17.HarqMends'. -/
def harqMendsUptoCard : Claim7 := { stood := { row := harqMendsUptoRow, standIns := [], harness := (true, "64370af59184c63706eccbafb895dcc815f182afe080db79e567eef9ec8c010c"), looks := false }, kinds := [], alts := [], laidByText := true, laidKinds := [.data], laidTests := true, laidLooks := .later }
def HarqMendsUptoCardSaid : Prop := Claim7.holds Tryd.pinned (.plain (OpenSpec.upto harqMendsSpec)) harqMendsUptoCard

/-- THE SECOND FORM's CARD OF 'shuttlelaw17.HarqOffers'. -/
def harqOffersUptoCard : Claim7 := { stood := { row := harqOffersUptoRow, standIns := [], harness := (true, "64370af59184c63706eccbafb895dcc815f182afe080db79e567eef9ec8c010c"), looks := false }, kinds := [], alts := [], laidByText := true, laidKinds := [.data], laidTests := true, laidLooks := .later }
def HarqOffersUptoCardSaid : Prop := Claim7.holds Tryd.pinned (.plain (OpenSpec.upto harqOffersSpec)) harqOffersUptoCard

/-- THE SECOND FORM's CARD OF 'shuttlelaw17.HarqAnew'. -/
def harqAnewUptoCard : Claim7 := { stood := { row := harqAnewUptoRow, standIns := [], harness := (true, "64370af59184c63706eccbafb895dcc815f182afe080db79e567eef9ec8c010c"), looks := false }, kinds := [], alts := [], laidByText := true, laidKinds := [.data], laidTests := true, laidLooks := .later }
def HarqAnewUptoCardSaid : Prop := Claim7.holds Tryd.pinned (.plain (OpenSpec.upto harqAnewSpec)) harqAnewUptoCard

/-- THE SECOND FORM's CARD OF 'shuttlelaw17.HarqVersions'. -/
def harqVersionsUptoCard : Claim7 := { stood := { row := harqVersionsUptoRow, standIns := [], harness := (true, "64370af59184c63706eccbafb895dcc815f182afe080db79e567eef9ec8c010c"), looks := false }, kinds := [], alts := [], laidByText := true, laidKinds := [.data], laidTests := true, laidLooks := .later }
def HarqVersionsUptoCardSaid : Prop := Claim7.holds Tryd.pinned (.plain (OpenSpec.upto harqVersionsSpec)) harqVersionsUptoCard
end Rows
end Go.Proofs.YtnejnnfjbhpigaaDoor
