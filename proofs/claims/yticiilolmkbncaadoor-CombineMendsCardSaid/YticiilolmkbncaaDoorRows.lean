/-
  NARROWER THAN 'FOR EVERY INPUT', by the rows' own cells (each row's printed sentence says how): ViterbiFew: laid · ViterbiTells: laid · ViterbiBest: laid · ViterbiMends: laid · ViterbiLong: laid · ViterbiTwice: laid · CombineMends: laid · CombineWhole: laid · CombineOrder: laid · CombineAdds: laid.
  DERIVED. THE GIVEN ROWS OF THIS SEAT. 10 by the template 'for every input the law returns true; each argument reads behind the call as it read before'; 0 by the template 'total and deterministic' (their statements: YticiilolmkbncaaDoorTotals.lean).
  GIVEN WITH THE SEED: the statements are not yours to turn. If you find one false, say at which input.
  Laid BY PROGRAM, IN A SANDBOX (cutbox-rows.mjs): the forced cells as the released guide's own fill.sh prints them over the translation f76d01d5bf2f0741… (all of the seat's roots in one cut). By AI agents, Wed Nov 11 2026. No macro, syntax, notation, axiom, sorry.
-/
import Derived.Test.YticiilolmkbncaaDoorChecked
import GoSem.Claim
import GoSem.ClaimJoined
import GoSem.ClaimMapViews
import Derived.JoinedTies
import Derived.KernelRfl
namespace Go.Proofs.YticiilolmkbncaaDoor
/- THE CELL 'sum', in the pinned program and in every row, IS THE sha256 OF THE DUMP (.gsa) THAT YticiilolmkbncaaDoorProg.lean LOADS. Nothing in Lean hashes anything: it is a label: what it is worth is what the hold of that sum in a sandbox is worth. -/
noncomputable def Tryd.pinned : Pinned := { name := "yticiilolmkbncaadoor", sum := "f76d01d5bf2f07413f356b4e09dc89c6ab0ac5afb6262954d4eb4d7d7a367d61", checked := Tryd.checked }
namespace Rows
def none {H : Type} : Left H := { results := [], args := [] }

/- WHAT THE LISTED PACKAGE-LEVEL VARIABLES READ AS WHEN THE CALL BEGINS. Each datum BY PROGRAM (the guide's laid-datum.mjs) off the statement by which the dump's own 'gosem.cut.vars' lays the variable. In a bare row this is a premise. The card (YticiilolmkbncaaDoorCards.lean) ties it to the program's text. -/
def laid_shuttle_conv_taps {H : Type} : DataW H := .agg [.lit (.int .u64 79), .lit (.int .u64 87), .lit (.int .u64 109), .lit (.int .u64 121)]

/-- 'shuttlelaw09.ViterbiFew': WHATEVER THE INPUT: true; the input reads as it did. -/
def viterbiFewSpec : ChangeSpec := { name := "viterbiFew", fn := fun _ => fun
  | [d1, d2] => { results := [.lit (.bool true)], args := [d1, d2] }
  | _ => none }
def viterbiFewRow : OpenClaim := { program := "yticiilolmkbncaadoor", sum := "f76d01d5bf2f07413f356b4e09dc89c6ab0ac5afb6262954d4eb4d7d7a367d61", func := "shuttle/shuttlelaw09.ViterbiFew", spec := "viterbiFew", unfollowed := true, recurses := true, named := ["shuttle/conv.taps"], apart := false, laid := [("shuttle/conv.taps", laid_shuttle_conv_taps)] }
def ViterbiFewSaid : Prop := viterbiFewRow.holds Tryd.pinned (OpenSpec.ofChange viterbiFewSpec)

/-- ITS FALSE NEIGHBOUR: 'it returns false'. Refute it at one input. -/
def viterbiFewWrong : ChangeSpec := { name := "viterbiFew", fn := fun _ => fun
  | [d1, d2] => { results := [.lit (.bool false)], args := [d1, d2] }
  | _ => none }
def ViterbiFewWrongFalsely : Prop := viterbiFewRow.holds Tryd.pinned (OpenSpec.ofChange viterbiFewWrong)

/-- 'shuttlelaw09.ViterbiTells': WHATEVER THE INPUT: true; the input reads as it did. -/
def viterbiTellsSpec : ChangeSpec := { name := "viterbiTells", fn := fun _ => fun
  | [d] => { results := [.lit (.bool true)], args := [d] }
  | _ => none }
def viterbiTellsRow : OpenClaim := { program := "yticiilolmkbncaadoor", sum := "f76d01d5bf2f07413f356b4e09dc89c6ab0ac5afb6262954d4eb4d7d7a367d61", func := "shuttle/shuttlelaw09.ViterbiTells", spec := "viterbiTells", unfollowed := true, recurses := true, named := ["shuttle/conv.taps"], apart := false, laid := [("shuttle/conv.taps", laid_shuttle_conv_taps)] }
def ViterbiTellsSaid : Prop := viterbiTellsRow.holds Tryd.pinned (OpenSpec.ofChange viterbiTellsSpec)

/-- ITS FALSE NEIGHBOUR: 'it returns false'. Refute it at one input. -/
def viterbiTellsWrong : ChangeSpec := { name := "viterbiTells", fn := fun _ => fun
  | [d] => { results := [.lit (.bool false)], args := [d] }
  | _ => none }
def ViterbiTellsWrongFalsely : Prop := viterbiTellsRow.holds Tryd.pinned (OpenSpec.ofChange viterbiTellsWrong)

/-- 'shuttlelaw09.ViterbiBest': WHATEVER THE INPUT: true; the input reads as it did. -/
def viterbiBestSpec : ChangeSpec := { name := "viterbiBest", fn := fun _ => fun
  | [d1, d2] => { results := [.lit (.bool true)], args := [d1, d2] }
  | _ => none }
def viterbiBestRow : OpenClaim := { program := "yticiilolmkbncaadoor", sum := "f76d01d5bf2f07413f356b4e09dc89c6ab0ac5afb6262954d4eb4d7d7a367d61", func := "shuttle/shuttlelaw09.ViterbiBest", spec := "viterbiBest", unfollowed := true, recurses := true, named := ["shuttle/conv.taps"], apart := false, laid := [("shuttle/conv.taps", laid_shuttle_conv_taps)] }
def ViterbiBestSaid : Prop := viterbiBestRow.holds Tryd.pinned (OpenSpec.ofChange viterbiBestSpec)

/-- ITS FALSE NEIGHBOUR: 'it returns false'. Refute it at one input. -/
def viterbiBestWrong : ChangeSpec := { name := "viterbiBest", fn := fun _ => fun
  | [d1, d2] => { results := [.lit (.bool false)], args := [d1, d2] }
  | _ => none }
def ViterbiBestWrongFalsely : Prop := viterbiBestRow.holds Tryd.pinned (OpenSpec.ofChange viterbiBestWrong)

/-- 'shuttlelaw09.ViterbiMends': WHATEVER THE INPUT: true; the input reads as it did. -/
def viterbiMendsSpec : ChangeSpec := { name := "viterbiMends", fn := fun _ => fun
  | [d1, d2] => { results := [.lit (.bool true)], args := [d1, d2] }
  | _ => none }
def viterbiMendsRow : OpenClaim := { program := "yticiilolmkbncaadoor", sum := "f76d01d5bf2f07413f356b4e09dc89c6ab0ac5afb6262954d4eb4d7d7a367d61", func := "shuttle/shuttlelaw09.ViterbiMends", spec := "viterbiMends", unfollowed := true, recurses := true, named := ["shuttle/conv.taps"], apart := false, laid := [("shuttle/conv.taps", laid_shuttle_conv_taps)] }
def ViterbiMendsSaid : Prop := viterbiMendsRow.holds Tryd.pinned (OpenSpec.ofChange viterbiMendsSpec)

/-- ITS FALSE NEIGHBOUR: 'it returns false'. Refute it at one input. -/
def viterbiMendsWrong : ChangeSpec := { name := "viterbiMends", fn := fun _ => fun
  | [d1, d2] => { results := [.lit (.bool false)], args := [d1, d2] }
  | _ => none }
def ViterbiMendsWrongFalsely : Prop := viterbiMendsRow.holds Tryd.pinned (OpenSpec.ofChange viterbiMendsWrong)

/-- 'shuttlelaw09.ViterbiLong': WHATEVER THE INPUT: true; the input reads as it did. -/
def viterbiLongSpec : ChangeSpec := { name := "viterbiLong", fn := fun _ => fun
  | [d] => { results := [.lit (.bool true)], args := [d] }
  | _ => none }
def viterbiLongRow : OpenClaim := { program := "yticiilolmkbncaadoor", sum := "f76d01d5bf2f07413f356b4e09dc89c6ab0ac5afb6262954d4eb4d7d7a367d61", func := "shuttle/shuttlelaw09.ViterbiLong", spec := "viterbiLong", unfollowed := true, recurses := true, named := ["shuttle/conv.taps"], apart := false, laid := [("shuttle/conv.taps", laid_shuttle_conv_taps)] }
def ViterbiLongSaid : Prop := viterbiLongRow.holds Tryd.pinned (OpenSpec.ofChange viterbiLongSpec)

/-- ITS FALSE NEIGHBOUR: 'it returns false'. Refute it at one input. -/
def viterbiLongWrong : ChangeSpec := { name := "viterbiLong", fn := fun _ => fun
  | [d] => { results := [.lit (.bool false)], args := [d] }
  | _ => none }
def ViterbiLongWrongFalsely : Prop := viterbiLongRow.holds Tryd.pinned (OpenSpec.ofChange viterbiLongWrong)

/-- 'shuttlelaw09.ViterbiTwice': WHATEVER THE INPUT: true; the input reads as it did. -/
def viterbiTwiceSpec : ChangeSpec := { name := "viterbiTwice", fn := fun _ => fun
  | [d] => { results := [.lit (.bool true)], args := [d] }
  | _ => none }
def viterbiTwiceRow : OpenClaim := { program := "yticiilolmkbncaadoor", sum := "f76d01d5bf2f07413f356b4e09dc89c6ab0ac5afb6262954d4eb4d7d7a367d61", func := "shuttle/shuttlelaw09.ViterbiTwice", spec := "viterbiTwice", unfollowed := true, recurses := true, named := ["shuttle/conv.taps"], apart := false, laid := [("shuttle/conv.taps", laid_shuttle_conv_taps)] }
def ViterbiTwiceSaid : Prop := viterbiTwiceRow.holds Tryd.pinned (OpenSpec.ofChange viterbiTwiceSpec)

/-- ITS FALSE NEIGHBOUR: 'it returns false'. Refute it at one input. -/
def viterbiTwiceWrong : ChangeSpec := { name := "viterbiTwice", fn := fun _ => fun
  | [d] => { results := [.lit (.bool false)], args := [d] }
  | _ => none }
def ViterbiTwiceWrongFalsely : Prop := viterbiTwiceRow.holds Tryd.pinned (OpenSpec.ofChange viterbiTwiceWrong)

/-- 'shuttlelaw13.CombineMends': WHATEVER THE INPUT: true; the input reads as it did. -/
def combineMendsSpec : ChangeSpec := { name := "combineMends", fn := fun _ => fun
  | [d1, d2] => { results := [.lit (.bool true)], args := [d1, d2] }
  | _ => none }
def combineMendsRow : OpenClaim := { program := "yticiilolmkbncaadoor", sum := "f76d01d5bf2f07413f356b4e09dc89c6ab0ac5afb6262954d4eb4d7d7a367d61", func := "shuttle/shuttlelaw13.CombineMends", spec := "combineMends", unfollowed := true, recurses := true, named := ["shuttle/conv.taps"], apart := false, laid := [("shuttle/conv.taps", laid_shuttle_conv_taps)] }
def CombineMendsSaid : Prop := combineMendsRow.holds Tryd.pinned (OpenSpec.ofChange combineMendsSpec)

/-- ITS FALSE NEIGHBOUR: 'it returns false'. Refute it at one input. -/
def combineMendsWrong : ChangeSpec := { name := "combineMends", fn := fun _ => fun
  | [d1, d2] => { results := [.lit (.bool false)], args := [d1, d2] }
  | _ => none }
def CombineMendsWrongFalsely : Prop := combineMendsRow.holds Tryd.pinned (OpenSpec.ofChange combineMendsWrong)

/-- 'shuttlelaw13.CombineWhole': WHATEVER THE INPUT: true; the input reads as it did. -/
def combineWholeSpec : ChangeSpec := { name := "combineWhole", fn := fun _ => fun
  | [d1, d2, d3] => { results := [.lit (.bool true)], args := [d1, d2, d3] }
  | _ => none }
def combineWholeRow : OpenClaim := { program := "yticiilolmkbncaadoor", sum := "f76d01d5bf2f07413f356b4e09dc89c6ab0ac5afb6262954d4eb4d7d7a367d61", func := "shuttle/shuttlelaw13.CombineWhole", spec := "combineWhole", unfollowed := true, recurses := true, named := ["shuttle/conv.taps"], apart := false, laid := [("shuttle/conv.taps", laid_shuttle_conv_taps)] }
def CombineWholeSaid : Prop := combineWholeRow.holds Tryd.pinned (OpenSpec.ofChange combineWholeSpec)

/-- ITS FALSE NEIGHBOUR: 'it returns false'. Refute it at one input. -/
def combineWholeWrong : ChangeSpec := { name := "combineWhole", fn := fun _ => fun
  | [d1, d2, d3] => { results := [.lit (.bool false)], args := [d1, d2, d3] }
  | _ => none }
def CombineWholeWrongFalsely : Prop := combineWholeRow.holds Tryd.pinned (OpenSpec.ofChange combineWholeWrong)

/-- 'shuttlelaw13.CombineOrder': WHATEVER THE INPUT: true; the input reads as it did. -/
def combineOrderSpec : ChangeSpec := { name := "combineOrder", fn := fun _ => fun
  | [d1, d2, d3] => { results := [.lit (.bool true)], args := [d1, d2, d3] }
  | _ => none }
def combineOrderRow : OpenClaim := { program := "yticiilolmkbncaadoor", sum := "f76d01d5bf2f07413f356b4e09dc89c6ab0ac5afb6262954d4eb4d7d7a367d61", func := "shuttle/shuttlelaw13.CombineOrder", spec := "combineOrder", unfollowed := true, recurses := true, named := ["shuttle/conv.taps"], apart := false, laid := [("shuttle/conv.taps", laid_shuttle_conv_taps)] }
def CombineOrderSaid : Prop := combineOrderRow.holds Tryd.pinned (OpenSpec.ofChange combineOrderSpec)

/-- ITS FALSE NEIGHBOUR: 'it returns false'. Refute it at one input. -/
def combineOrderWrong : ChangeSpec := { name := "combineOrder", fn := fun _ => fun
  | [d1, d2, d3] => { results := [.lit (.bool false)], args := [d1, d2, d3] }
  | _ => none }
def CombineOrderWrongFalsely : Prop := combineOrderRow.holds Tryd.pinned (OpenSpec.ofChange combineOrderWrong)

/-- 'shuttlelaw13.CombineAdds': WHATEVER THE INPUT: true; the input reads as it did. -/
def combineAddsSpec : ChangeSpec := { name := "combineAdds", fn := fun _ => fun
  | [d1, d2, d3] => { results := [.lit (.bool true)], args := [d1, d2, d3] }
  | _ => none }
def combineAddsRow : OpenClaim := { program := "yticiilolmkbncaadoor", sum := "f76d01d5bf2f07413f356b4e09dc89c6ab0ac5afb6262954d4eb4d7d7a367d61", func := "shuttle/shuttlelaw13.CombineAdds", spec := "combineAdds", unfollowed := true, recurses := true, named := ["shuttle/conv.taps"], apart := false, laid := [("shuttle/conv.taps", laid_shuttle_conv_taps)] }
def CombineAddsSaid : Prop := combineAddsRow.holds Tryd.pinned (OpenSpec.ofChange combineAddsSpec)

/-- ITS FALSE NEIGHBOUR: 'it returns false'. Refute it at one input. -/
def combineAddsWrong : ChangeSpec := { name := "combineAdds", fn := fun _ => fun
  | [d1, d2, d3] => { results := [.lit (.bool false)], args := [d1, d2, d3] }
  | _ => none }
def CombineAddsWrongFalsely : Prop := combineAddsRow.holds Tryd.pinned (OpenSpec.ofChange combineAddsWrong)

/- THE SECOND FORM. 'bulk': how many values and letters a reading holds, each counted each time it is reached (what is shared counts as often as it is met; a slice's spare places count too). A statement '..UptoSaid' is the law's where the arguments, and the package variables that the reading takes, are together of bulk at most 1048576: NARROWER than '..Said'. Prove '..Said' where nothing that the law and all that it calls make is longer than what came in: it says more and counts as full. Else prove '..UptoSaid'. A law counts once. -/
mutual
def uptoBulk {H : Type} : DataW H → Nat
  | .lit (.string bytes) => bytes.length + 1
  | .lit _ => 1
  | .nil => 1
  | .ptr d => uptoBulk d + 1
  | .slice elems spare => uptoBulkAll elems + uptoBulkAll spare + 1
  | .agg parts => uptoBulkAll parts + 1
  | .iface _ d => uptoBulk d + 1
  | .map entries => uptoBulkEntries entries + 1
  | .held _ => 1
def uptoBulkAll {H : Type} : List (DataW H) → Nat
  | [] => 0
  | d :: r => uptoBulk d + uptoBulkAll r
def uptoBulkEntries {H : Type} : List (Lit × DataW H) → Nat
  | [] => 0
  | x :: r => uptoBulkEntry x + uptoBulkEntries r
def uptoBulkEntry {H : Type} : Lit × DataW H → Nat
  | (.string bytes, d) => bytes.length + uptoBulk d + 1
  | (_, d) => uptoBulk d + 1
 end
def uptoSmall : (H : Type) → List (DataW H) → Bool := fun _ ds => decide (uptoBulkAll ds ≤ 1048576)
def OpenSpec.upto (s : _root_.Go.ChangeSpec) : _root_.Go.OpenSpec := { _root_.Go.OpenSpec.ofChange s with cond := some uptoSmall }

/-- 'shuttlelaw09.ViterbiFew', WHERE WHAT IT READS IS OF BULK AT MOST 1048576: true; the input reads as it did. -/
def viterbiFewUptoRow : OpenClaim := { program := "yticiilolmkbncaadoor", sum := "f76d01d5bf2f07413f356b4e09dc89c6ab0ac5afb6262954d4eb4d7d7a367d61", func := "shuttle/shuttlelaw09.ViterbiFew", spec := "viterbiFew", unfollowed := true, recurses := true, named := ["shuttle/conv.taps"], apart := false, laid := [("shuttle/conv.taps", laid_shuttle_conv_taps)], narrowed := true }
def ViterbiFewUptoSaid : Prop := viterbiFewUptoRow.holds Tryd.pinned (OpenSpec.upto viterbiFewSpec)

/-- 'shuttlelaw09.ViterbiTells', WHERE WHAT IT READS IS OF BULK AT MOST 1048576: true; the input reads as it did. -/
def viterbiTellsUptoRow : OpenClaim := { program := "yticiilolmkbncaadoor", sum := "f76d01d5bf2f07413f356b4e09dc89c6ab0ac5afb6262954d4eb4d7d7a367d61", func := "shuttle/shuttlelaw09.ViterbiTells", spec := "viterbiTells", unfollowed := true, recurses := true, named := ["shuttle/conv.taps"], apart := false, laid := [("shuttle/conv.taps", laid_shuttle_conv_taps)], narrowed := true }
def ViterbiTellsUptoSaid : Prop := viterbiTellsUptoRow.holds Tryd.pinned (OpenSpec.upto viterbiTellsSpec)

/-- 'shuttlelaw09.ViterbiBest', WHERE WHAT IT READS IS OF BULK AT MOST 1048576: true; the input reads as it did. -/
def viterbiBestUptoRow : OpenClaim := { program := "yticiilolmkbncaadoor", sum := "f76d01d5bf2f07413f356b4e09dc89c6ab0ac5afb6262954d4eb4d7d7a367d61", func := "shuttle/shuttlelaw09.ViterbiBest", spec := "viterbiBest", unfollowed := true, recurses := true, named := ["shuttle/conv.taps"], apart := false, laid := [("shuttle/conv.taps", laid_shuttle_conv_taps)], narrowed := true }
def ViterbiBestUptoSaid : Prop := viterbiBestUptoRow.holds Tryd.pinned (OpenSpec.upto viterbiBestSpec)

/-- 'shuttlelaw09.ViterbiMends', WHERE WHAT IT READS IS OF BULK AT MOST 1048576: true; the input reads as it did. -/
def viterbiMendsUptoRow : OpenClaim := { program := "yticiilolmkbncaadoor", sum := "f76d01d5bf2f07413f356b4e09dc89c6ab0ac5afb6262954d4eb4d7d7a367d61", func := "shuttle/shuttlelaw09.ViterbiMends", spec := "viterbiMends", unfollowed := true, recurses := true, named := ["shuttle/conv.taps"], apart := false, laid := [("shuttle/conv.taps", laid_shuttle_conv_taps)], narrowed := true }
def ViterbiMendsUptoSaid : Prop := viterbiMendsUptoRow.holds Tryd.pinned (OpenSpec.upto viterbiMendsSpec)

/-- 'shuttlelaw09.ViterbiLong', WHERE WHAT IT READS IS OF BULK AT MOST 1048576: true; the input reads as it did. -/
def viterbiLongUptoRow : OpenClaim := { program := "yticiilolmkbncaadoor", sum := "f76d01d5bf2f07413f356b4e09dc89c6ab0ac5afb6262954d4eb4d7d7a367d61", func := "shuttle/shuttlelaw09.ViterbiLong", spec := "viterbiLong", unfollowed := true, recurses := true, named := ["shuttle/conv.taps"], apart := false, laid := [("shuttle/conv.taps", laid_shuttle_conv_taps)], narrowed := true }
def ViterbiLongUptoSaid : Prop := viterbiLongUptoRow.holds Tryd.pinned (OpenSpec.upto viterbiLongSpec)

/-- 'shuttlelaw09.ViterbiTwice', WHERE WHAT IT READS IS OF BULK AT MOST 1048576: true; the input reads as it did. -/
def viterbiTwiceUptoRow : OpenClaim := { program := "yticiilolmkbncaadoor", sum := "f76d01d5bf2f07413f356b4e09dc89c6ab0ac5afb6262954d4eb4d7d7a367d61", func := "shuttle/shuttlelaw09.ViterbiTwice", spec := "viterbiTwice", unfollowed := true, recurses := true, named := ["shuttle/conv.taps"], apart := false, laid := [("shuttle/conv.taps", laid_shuttle_conv_taps)], narrowed := true }
def ViterbiTwiceUptoSaid : Prop := viterbiTwiceUptoRow.holds Tryd.pinned (OpenSpec.upto viterbiTwiceSpec)

/-- 'shuttlelaw13.CombineMends', WHERE WHAT IT READS IS OF BULK AT MOST 1048576: true; the input reads as it did. -/
def combineMendsUptoRow : OpenClaim := { program := "yticiilolmkbncaadoor", sum := "f76d01d5bf2f07413f356b4e09dc89c6ab0ac5afb6262954d4eb4d7d7a367d61", func := "shuttle/shuttlelaw13.CombineMends", spec := "combineMends", unfollowed := true, recurses := true, named := ["shuttle/conv.taps"], apart := false, laid := [("shuttle/conv.taps", laid_shuttle_conv_taps)], narrowed := true }
def CombineMendsUptoSaid : Prop := combineMendsUptoRow.holds Tryd.pinned (OpenSpec.upto combineMendsSpec)

/-- 'shuttlelaw13.CombineWhole', WHERE WHAT IT READS IS OF BULK AT MOST 1048576: true; the input reads as it did. -/
def combineWholeUptoRow : OpenClaim := { program := "yticiilolmkbncaadoor", sum := "f76d01d5bf2f07413f356b4e09dc89c6ab0ac5afb6262954d4eb4d7d7a367d61", func := "shuttle/shuttlelaw13.CombineWhole", spec := "combineWhole", unfollowed := true, recurses := true, named := ["shuttle/conv.taps"], apart := false, laid := [("shuttle/conv.taps", laid_shuttle_conv_taps)], narrowed := true }
def CombineWholeUptoSaid : Prop := combineWholeUptoRow.holds Tryd.pinned (OpenSpec.upto combineWholeSpec)

/-- 'shuttlelaw13.CombineOrder', WHERE WHAT IT READS IS OF BULK AT MOST 1048576: true; the input reads as it did. -/
def combineOrderUptoRow : OpenClaim := { program := "yticiilolmkbncaadoor", sum := "f76d01d5bf2f07413f356b4e09dc89c6ab0ac5afb6262954d4eb4d7d7a367d61", func := "shuttle/shuttlelaw13.CombineOrder", spec := "combineOrder", unfollowed := true, recurses := true, named := ["shuttle/conv.taps"], apart := false, laid := [("shuttle/conv.taps", laid_shuttle_conv_taps)], narrowed := true }
def CombineOrderUptoSaid : Prop := combineOrderUptoRow.holds Tryd.pinned (OpenSpec.upto combineOrderSpec)

/-- 'shuttlelaw13.CombineAdds', WHERE WHAT IT READS IS OF BULK AT MOST 1048576: true; the input reads as it did. -/
def combineAddsUptoRow : OpenClaim := { program := "yticiilolmkbncaadoor", sum := "f76d01d5bf2f07413f356b4e09dc89c6ab0ac5afb6262954d4eb4d7d7a367d61", func := "shuttle/shuttlelaw13.CombineAdds", spec := "combineAdds", unfollowed := true, recurses := true, named := ["shuttle/conv.taps"], apart := false, laid := [("shuttle/conv.taps", laid_shuttle_conv_taps)], narrowed := true }
def CombineAddsUptoSaid : Prop := combineAddsUptoRow.holds Tryd.pinned (OpenSpec.upto combineAddsSpec)

end Rows
end Go.Proofs.YticiilolmkbncaaDoor
