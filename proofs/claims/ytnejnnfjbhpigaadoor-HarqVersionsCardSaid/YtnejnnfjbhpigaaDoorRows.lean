/-
  NARROWER THAN 'FOR EVERY INPUT', by the rows' own cells (each row's printed sentence says how): HarqAlone: laid · HarqMends: laid · HarqOffers: laid · HarqAnew: laid · HarqVersions: laid.
  DERIVED. THE GIVEN ROWS OF THIS SEAT. 5 by the template 'for every input the law returns true; each argument reads behind the call as it read before'; 0 by the template 'total and deterministic' (their statements: YtnejnnfjbhpigaaDoorTotals.lean).
  GIVEN WITH THE SEED: the statements are not yours to turn. If you find one false, say at which input.
  Laid BY PROGRAM, IN A SANDBOX (cutbox-rows.mjs): the forced cells as the released guide's own fill.sh prints them over the translation 3c446813d749fd42… (all of the seat's roots in one cut). By AI agents, Wed Nov 11 2026. No macro, syntax, notation, axiom, sorry.
-/
import Derived.Test.YtnejnnfjbhpigaaDoorChecked
import GoSem.Claim
import GoSem.ClaimJoined
import GoSem.ClaimMapViews
import Derived.JoinedTies
import Derived.KernelRfl
namespace Go.Proofs.YtnejnnfjbhpigaaDoor
/- THE CELL 'sum', in the pinned program and in every row, IS THE sha256 OF THE DUMP (.gsa) THAT YtnejnnfjbhpigaaDoorProg.lean LOADS. Nothing in Lean hashes anything: it is a label: what it is worth is what the hold of that sum in a sandbox is worth. -/
noncomputable def Tryd.pinned : Pinned := { name := "ytnejnnfjbhpigaadoor", sum := "3c446813d749fd420f75abc87fe211ab4452d14e5bcd3abe0c34453de26ecd16", checked := Tryd.checked }
namespace Rows
def none {H : Type} : Left H := { results := [], args := [] }

/- WHAT THE LISTED PACKAGE-LEVEL VARIABLES READ AS WHEN THE CALL BEGINS. Each datum BY PROGRAM (the guide's laid-datum.mjs) off the statement by which the dump's own 'gosem.cut.vars' lays the variable. In a bare row this is a premise. The card (YtnejnnfjbhpigaaDoorCards.lean) ties it to the program's text. -/
def laid_shuttle_conv_taps {H : Type} : DataW H := .agg [.lit (.int .u64 79), .lit (.int .u64 87), .lit (.int .u64 109), .lit (.int .u64 121)]

/-- 'shuttlelaw17.HarqAlone': WHATEVER THE INPUT: true; the input reads as it did. -/
def harqAloneSpec : ChangeSpec := { name := "harqAlone", fn := fun _ => fun
  | [d1, d2, d3] => { results := [.lit (.bool true)], args := [d1, d2, d3] }
  | _ => none }
def harqAloneRow : OpenClaim := { program := "ytnejnnfjbhpigaadoor", sum := "3c446813d749fd420f75abc87fe211ab4452d14e5bcd3abe0c34453de26ecd16", func := "shuttle/shuttlelaw17.HarqAlone", spec := "harqAlone", unfollowed := true, recurses := true, named := ["shuttle/conv.taps"], apart := false, laid := [("shuttle/conv.taps", laid_shuttle_conv_taps)] }
def HarqAloneSaid : Prop := harqAloneRow.holds Tryd.pinned (OpenSpec.ofChange harqAloneSpec)

/-- ITS FALSE NEIGHBOUR: 'it returns false'. Refute it at one input. -/
def harqAloneWrong : ChangeSpec := { name := "harqAlone", fn := fun _ => fun
  | [d1, d2, d3] => { results := [.lit (.bool false)], args := [d1, d2, d3] }
  | _ => none }
def HarqAloneWrongFalsely : Prop := harqAloneRow.holds Tryd.pinned (OpenSpec.ofChange harqAloneWrong)

/-- 'shuttlelaw17.HarqMends': WHATEVER THE INPUT: true; the input reads as it did. -/
def harqMendsSpec : ChangeSpec := { name := "harqMends", fn := fun _ => fun
  | [d1, d2] => { results := [.lit (.bool true)], args := [d1, d2] }
  | _ => none }
def harqMendsRow : OpenClaim := { program := "ytnejnnfjbhpigaadoor", sum := "3c446813d749fd420f75abc87fe211ab4452d14e5bcd3abe0c34453de26ecd16", func := "shuttle/shuttlelaw17.HarqMends", spec := "harqMends", unfollowed := true, recurses := true, named := ["shuttle/conv.taps"], apart := false, laid := [("shuttle/conv.taps", laid_shuttle_conv_taps)] }
def HarqMendsSaid : Prop := harqMendsRow.holds Tryd.pinned (OpenSpec.ofChange harqMendsSpec)

/-- ITS FALSE NEIGHBOUR: 'it returns false'. Refute it at one input. -/
def harqMendsWrong : ChangeSpec := { name := "harqMends", fn := fun _ => fun
  | [d1, d2] => { results := [.lit (.bool false)], args := [d1, d2] }
  | _ => none }
def HarqMendsWrongFalsely : Prop := harqMendsRow.holds Tryd.pinned (OpenSpec.ofChange harqMendsWrong)

/-- 'shuttlelaw17.HarqOffers': WHATEVER THE INPUT: true; the input reads as it did. -/
def harqOffersSpec : ChangeSpec := { name := "harqOffers", fn := fun _ => fun
  | [d1, d2, d3] => { results := [.lit (.bool true)], args := [d1, d2, d3] }
  | _ => none }
def harqOffersRow : OpenClaim := { program := "ytnejnnfjbhpigaadoor", sum := "3c446813d749fd420f75abc87fe211ab4452d14e5bcd3abe0c34453de26ecd16", func := "shuttle/shuttlelaw17.HarqOffers", spec := "harqOffers", unfollowed := true, recurses := true, named := ["shuttle/conv.taps"], apart := false, laid := [("shuttle/conv.taps", laid_shuttle_conv_taps)] }
def HarqOffersSaid : Prop := harqOffersRow.holds Tryd.pinned (OpenSpec.ofChange harqOffersSpec)

/-- ITS FALSE NEIGHBOUR: 'it returns false'. Refute it at one input. -/
def harqOffersWrong : ChangeSpec := { name := "harqOffers", fn := fun _ => fun
  | [d1, d2, d3] => { results := [.lit (.bool false)], args := [d1, d2, d3] }
  | _ => none }
def HarqOffersWrongFalsely : Prop := harqOffersRow.holds Tryd.pinned (OpenSpec.ofChange harqOffersWrong)

/-- 'shuttlelaw17.HarqAnew': WHATEVER THE INPUT: true; the input reads as it did. -/
def harqAnewSpec : ChangeSpec := { name := "harqAnew", fn := fun _ => fun
  | [d1, d2, d3] => { results := [.lit (.bool true)], args := [d1, d2, d3] }
  | _ => none }
def harqAnewRow : OpenClaim := { program := "ytnejnnfjbhpigaadoor", sum := "3c446813d749fd420f75abc87fe211ab4452d14e5bcd3abe0c34453de26ecd16", func := "shuttle/shuttlelaw17.HarqAnew", spec := "harqAnew", unfollowed := true, recurses := true, named := ["shuttle/conv.taps"], apart := false, laid := [("shuttle/conv.taps", laid_shuttle_conv_taps)] }
def HarqAnewSaid : Prop := harqAnewRow.holds Tryd.pinned (OpenSpec.ofChange harqAnewSpec)

/-- ITS FALSE NEIGHBOUR: 'it returns false'. Refute it at one input. -/
def harqAnewWrong : ChangeSpec := { name := "harqAnew", fn := fun _ => fun
  | [d1, d2, d3] => { results := [.lit (.bool false)], args := [d1, d2, d3] }
  | _ => none }
def HarqAnewWrongFalsely : Prop := harqAnewRow.holds Tryd.pinned (OpenSpec.ofChange harqAnewWrong)

/-- 'shuttlelaw17.HarqVersions': WHATEVER THE INPUT: true; the input reads as it did. -/
def harqVersionsSpec : ChangeSpec := { name := "harqVersions", fn := fun _ => fun
  | [d1, d2] => { results := [.lit (.bool true)], args := [d1, d2] }
  | _ => none }
def harqVersionsRow : OpenClaim := { program := "ytnejnnfjbhpigaadoor", sum := "3c446813d749fd420f75abc87fe211ab4452d14e5bcd3abe0c34453de26ecd16", func := "shuttle/shuttlelaw17.HarqVersions", spec := "harqVersions", unfollowed := true, recurses := true, named := ["shuttle/conv.taps"], apart := false, laid := [("shuttle/conv.taps", laid_shuttle_conv_taps)] }
def HarqVersionsSaid : Prop := harqVersionsRow.holds Tryd.pinned (OpenSpec.ofChange harqVersionsSpec)

/-- ITS FALSE NEIGHBOUR: 'it returns false'. Refute it at one input. -/
def harqVersionsWrong : ChangeSpec := { name := "harqVersions", fn := fun _ => fun
  | [d1, d2] => { results := [.lit (.bool false)], args := [d1, d2] }
  | _ => none }
def HarqVersionsWrongFalsely : Prop := harqVersionsRow.holds Tryd.pinned (OpenSpec.ofChange harqVersionsWrong)

/- THE SECOND FORM. 'bulk': how many values and letters a reading holds, each counted each time it is reached (what is shared counts as often as it is met; a slice's spare places count too). A statement '..UptoSaid' is the law's where the arguments, and the package variables that the reading takes, are together of bulk at most 1048576: NARROWER than '..Said'. Prove '..Said' where nothing that the law and all that it calls make is longer than what came in: it says more and counts as full. Else prove '..UptoSaid'. A law counts once. -/
mutual
def uptoBulk {H : Type} : DataW H → Nat
  | .lit (.string bytes) => bytes.length + 1
  | .lit _ => 1
  | .nil => 1
  | .ptr d => uptoBulk d + 1
  | .slice elems spare => uptoBulkAll elems + uptoBulkAll spare + 1
  | .agg parts => uptoBulkAll parts + 1
  | .iface _ d => uptoBulk d + 1
  | .map entries => uptoBulkEntries entries + 1
  | .held _ => 1
def uptoBulkAll {H : Type} : List (DataW H) → Nat
  | [] => 0
  | d :: r => uptoBulk d + uptoBulkAll r
def uptoBulkEntries {H : Type} : List (Lit × DataW H) → Nat
  | [] => 0
  | x :: r => uptoBulkEntry x + uptoBulkEntries r
def uptoBulkEntry {H : Type} : Lit × DataW H → Nat
  | (.string bytes, d) => bytes.length + uptoBulk d + 1
  | (_, d) => uptoBulk d + 1
 end
def uptoSmall : (H : Type) → List (DataW H) → Bool := fun _ ds => decide (uptoBulkAll ds ≤ 1048576)
def OpenSpec.upto (s : _root_.Go.ChangeSpec) : _root_.Go.OpenSpec := { _root_.Go.OpenSpec.ofChange s with cond := some uptoSmall }

/-- 'shuttlelaw17.HarqAlone', WHERE WHAT IT READS IS OF BULK AT MOST 1048576: true; the input reads as it did. -/
def harqAloneUptoRow : OpenClaim := { program := "ytnejnnfjbhpigaadoor", sum := "3c446813d749fd420f75abc87fe211ab4452d14e5bcd3abe0c34453de26ecd16", func := "shuttle/shuttlelaw17.HarqAlone", spec := "harqAlone", unfollowed := true, recurses := true, named := ["shuttle/conv.taps"], apart := false, laid := [("shuttle/conv.taps", laid_shuttle_conv_taps)], narrowed := true }
def HarqAloneUptoSaid : Prop := harqAloneUptoRow.holds Tryd.pinned (OpenSpec.upto harqAloneSpec)

/-- 'shuttlelaw17.HarqMends', WHERE WHAT IT READS IS OF BULK AT MOST 1048576: true; the input reads as it did. -/
def harqMendsUptoRow : OpenClaim := { program := "ytnejnnfjbhpigaadoor", sum := "3c446813d749fd420f75abc87fe211ab4452d14e5bcd3abe0c34453de26ecd16", func := "shuttle/shuttlelaw17.HarqMends", spec := "harqMends", unfollowed := true, recurses := true, named := ["shuttle/conv.taps"], apart := false, laid := [("shuttle/conv.taps", laid_shuttle_conv_taps)], narrowed := true }
def HarqMendsUptoSaid : Prop := harqMendsUptoRow.holds Tryd.pinned (OpenSpec.upto harqMendsSpec)

/-- 'shuttlelaw17.HarqOffers', WHERE WHAT IT READS IS OF BULK AT MOST 1048576: true; the input reads as it did. -/
def harqOffersUptoRow : OpenClaim := { program := "ytnejnnfjbhpigaadoor", sum := "3c446813d749fd420f75abc87fe211ab4452d14e5bcd3abe0c34453de26ecd16", func := "shuttle/shuttlelaw17.HarqOffers", spec := "harqOffers", unfollowed := true, recurses := true, named := ["shuttle/conv.taps"], apart := false, laid := [("shuttle/conv.taps", laid_shuttle_conv_taps)], narrowed := true }
def HarqOffersUptoSaid : Prop := harqOffersUptoRow.holds Tryd.pinned (OpenSpec.upto harqOffersSpec)

/-- 'shuttlelaw17.HarqAnew', WHERE WHAT IT READS IS OF BULK AT MOST 1048576: true; the input reads as it did. -/
def harqAnewUptoRow : OpenClaim := { program := "ytnejnnfjbhpigaadoor", sum := "3c446813d749fd420f75abc87fe211ab4452d14e5bcd3abe0c34453de26ecd16", func := "shuttle/shuttlelaw17.HarqAnew", spec := "harqAnew", unfollowed := true, recurses := true, named := ["shuttle/conv.taps"], apart := false, laid := [("shuttle/conv.taps", laid_shuttle_conv_taps)], narrowed := true }
def HarqAnewUptoSaid : Prop := harqAnewUptoRow.holds Tryd.pinned (OpenSpec.upto harqAnewSpec)

/-- 'shuttlelaw17.HarqVersions', WHERE WHAT IT READS IS OF BULK AT MOST 1048576: true; the input reads as it did. -/
def harqVersionsUptoRow : OpenClaim := { program := "ytnejnnfjbhpigaadoor", sum := "3c446813d749fd420f75abc87fe211ab4452d14e5bcd3abe0c34453de26ecd16", func := "shuttle/shuttlelaw17.HarqVersions", spec := "harqVersions", unfollowed := true, recurses := true, named := ["shuttle/conv.taps"], apart := false, laid := [("shuttle/conv.taps", laid_shuttle_conv_taps)], narrowed := true }
def HarqVersionsUptoSaid : Prop := harqVersionsUptoRow.holds Tryd.pinned (OpenSpec.upto harqVersionsSpec)

end Rows
end Go.Proofs.YtnejnnfjbhpigaaDoor
