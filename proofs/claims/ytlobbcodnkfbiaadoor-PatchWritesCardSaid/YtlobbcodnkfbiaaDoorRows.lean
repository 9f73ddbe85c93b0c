/-
  NARROWER THAN 'FOR EVERY INPUT', by the rows' own cells (each row's printed sentence says how): PatchMakes: laid · PatchWrites: laid · PatchLays: laid · PatchJoins: laid · PatchTurns: laid.
  DERIVED. THE GIVEN ROWS OF THIS SEAT. 5 by the template 'for every input the law returns true; each argument reads behind the call as it read before'; 0 by the template 'total and deterministic' (their statements: YtlobbcodnkfbiaaDoorTotals.lean).
  GIVEN WITH THE SEED: the statements are not yours to turn. If you find one false, say at which input.
  Laid BY PROGRAM, IN A SANDBOX (cutbox-rows.mjs): the forced cells as the released guide's own fill.sh prints them over the translation 777602d526453593… (all of the seat's roots in one cut). By AI agents, Wed Nov 11 2026. No macro, syntax, notation, axiom, sorry.
-/
import Derived.Test.YtlobbcodnkfbiaaDoorChecked
import GoSem.Claim
import GoSem.ClaimJoined
import GoSem.ClaimMapViews
import Derived.JoinedTies
import Derived.KernelRfl
namespace Go.Proofs.YtlobbcodnkfbiaaDoor
/- THE CELL 'sum', in the pinned program and in every row, IS THE sha256 OF THE DUMP (.gsa) THAT YtlobbcodnkfbiaaDoorProg.lean LOADS. Nothing in Lean hashes anything: it is a label: what it is worth is what the hold of that sum in a sandbox is worth. -/
noncomputable def Tryd.pinned : Pinned := { name := "ytlobbcodnkfbiaadoor", sum := "777602d526453593e5cbd30f6afcd4c6d2c5b79e6de196488c12d1cb22bedafe", checked := Tryd.checked }
namespace Rows
def none {H : Type} : Left H := { results := [], args := [] }

/- WHAT THE LISTED PACKAGE-LEVEL VARIABLES READ AS WHEN THE CALL BEGINS. Each datum BY PROGRAM (the guide's laid-datum.mjs) off the statement by which the dump's own 'gosem.cut.vars' lays the variable. In a bare row this is a premise. The card (YtlobbcodnkfbiaaDoorCards.lean) ties it to the program's text. -/
def laid_math_bits_deBruijn32tab {H : Type} : DataW H := .agg [.lit (.int .u8 0), .lit (.int .u8 1), .lit (.int .u8 28), .lit (.int .u8 2), .lit (.int .u8 29), .lit (.int .u8 14), .lit (.int .u8 24), .lit (.int .u8 3), .lit (.int .u8 30), .lit (.int .u8 22), .lit (.int .u8 20), .lit (.int .u8 15), .lit (.int .u8 25), .lit (.int .u8 17), .lit (.int .u8 4), .lit (.int .u8 8), .lit (.int .u8 31), .lit (.int .u8 27), .lit (.int .u8 13), .lit (.int .u8 23), .lit (.int .u8 21), .lit (.int .u8 19), .lit (.int .u8 16), .lit (.int .u8 7), .lit (.int .u8 26), .lit (.int .u8 12), .lit (.int .u8 18), .lit (.int .u8 6), .lit (.int .u8 11), .lit (.int .u8 5), .lit (.int .u8 10), .lit (.int .u8 9)]

/-- 'armoirelaw12.PatchMakes': WHATEVER THE INPUT: true; the input reads as it did. -/
def patchMakesSpec : ChangeSpec := { name := "patchMakes", fn := fun _ => fun
  | [d1, d2] => { results := [.lit (.bool true)], args := [d1, d2] }
  | _ => none }
def patchMakesRow : OpenClaim := { program := "ytlobbcodnkfbiaadoor", sum := "777602d526453593e5cbd30f6afcd4c6d2c5b79e6de196488c12d1cb22bedafe", func := "armoire/armoirelaw12.PatchMakes", spec := "patchMakes", named := ["math/bits.deBruijn32tab"], apart := false, laid := [("math/bits.deBruijn32tab", laid_math_bits_deBruijn32tab)] }
def PatchMakesSaid : Prop := patchMakesRow.holds Tryd.pinned (OpenSpec.ofChange patchMakesSpec)

/-- ITS FALSE NEIGHBOUR: 'it returns false'. Refute it at one input. -/
def patchMakesWrong : ChangeSpec := { name := "patchMakes", fn := fun _ => fun
  | [d1, d2] => { results := [.lit (.bool false)], args := [d1, d2] }
  | _ => none }
def PatchMakesWrongFalsely : Prop := patchMakesRow.holds Tryd.pinned (OpenSpec.ofChange patchMakesWrong)

/-- 'armoirelaw12.PatchWrites': WHATEVER THE INPUT: true; the input reads as it did. -/
def patchWritesSpec : ChangeSpec := { name := "patchWrites", fn := fun _ => fun
  | [d1, d2, d3] => { results := [.lit (.bool true)], args := [d1, d2, d3] }
  | _ => none }
def patchWritesRow : OpenClaim := { program := "ytlobbcodnkfbiaadoor", sum := "777602d526453593e5cbd30f6afcd4c6d2c5b79e6de196488c12d1cb22bedafe", func := "armoire/armoirelaw12.PatchWrites", spec := "patchWrites", named := ["math/bits.deBruijn32tab"], apart := false, laid := [("math/bits.deBruijn32tab", laid_math_bits_deBruijn32tab)] }
def PatchWritesSaid : Prop := patchWritesRow.holds Tryd.pinned (OpenSpec.ofChange patchWritesSpec)

/-- ITS FALSE NEIGHBOUR: 'it returns false'. Refute it at one input. -/
def patchWritesWrong : ChangeSpec := { name := "patchWrites", fn := fun _ => fun
  | [d1, d2, d3] => { results := [.lit (.bool false)], args := [d1, d2, d3] }
  | _ => none }
def PatchWritesWrongFalsely : Prop := patchWritesRow.holds Tryd.pinned (OpenSpec.ofChange patchWritesWrong)

/-- 'armoirelaw12.PatchLays': WHATEVER THE INPUT: true; the input reads as it did. -/
def patchLaysSpec : ChangeSpec := { name := "patchLays", fn := fun _ => fun
  | [d1, d2, d3] => { results := [.lit (.bool true)], args := [d1, d2, d3] }
  | _ => none }
def patchLaysRow : OpenClaim := { program := "ytlobbcodnkfbiaadoor", sum := "777602d526453593e5cbd30f6afcd4c6d2c5b79e6de196488c12d1cb22bedafe", func := "armoire/armoirelaw12.PatchLays", spec := "patchLays", named := ["math/bits.deBruijn32tab"], apart := false, laid := [("math/bits.deBruijn32tab", laid_math_bits_deBruijn32tab)] }
def PatchLaysSaid : Prop := patchLaysRow.holds Tryd.pinned (OpenSpec.ofChange patchLaysSpec)

/-- ITS FALSE NEIGHBOUR: 'it returns false'. Refute it at one input. -/
def patchLaysWrong : ChangeSpec := { name := "patchLays", fn := fun _ => fun
  | [d1, d2, d3] => { results := [.lit (.bool false)], args := [d1, d2, d3] }
  | _ => none }
def PatchLaysWrongFalsely : Prop := patchLaysRow.holds Tryd.pinned (OpenSpec.ofChange patchLaysWrong)

/-- 'armoirelaw12.PatchJoins': WHATEVER THE INPUT: true; the input reads as it did. -/
def patchJoinsSpec : ChangeSpec := { name := "patchJoins", fn := fun _ => fun
  | [d1, d2, d3, d4] => { results := [.lit (.bool true)], args := [d1, d2, d3, d4] }
  | _ => none }
def patchJoinsRow : OpenClaim := { program := "ytlobbcodnkfbiaadoor", sum := "777602d526453593e5cbd30f6afcd4c6d2c5b79e6de196488c12d1cb22bedafe", func := "armoire/armoirelaw12.PatchJoins", spec := "patchJoins", named := ["math/bits.deBruijn32tab"], apart := false, laid := [("math/bits.deBruijn32tab", laid_math_bits_deBruijn32tab)] }
def PatchJoinsSaid : Prop := patchJoinsRow.holds Tryd.pinned (OpenSpec.ofChange patchJoinsSpec)

/-- ITS FALSE NEIGHBOUR: 'it returns false'. Refute it at one input. -/
def patchJoinsWrong : ChangeSpec := { name := "patchJoins", fn := fun _ => fun
  | [d1, d2, d3, d4] => { results := [.lit (.bool false)], args := [d1, d2, d3, d4] }
  | _ => none }
def PatchJoinsWrongFalsely : Prop := patchJoinsRow.holds Tryd.pinned (OpenSpec.ofChange patchJoinsWrong)

/-- 'armoirelaw12.PatchTurns': WHATEVER THE INPUT: true; the input reads as it did. -/
def patchTurnsSpec : ChangeSpec := { name := "patchTurns", fn := fun _ => fun
  | [d1, d2, d3] => { results := [.lit (.bool true)], args := [d1, d2, d3] }
  | _ => none }
def patchTurnsRow : OpenClaim := { program := "ytlobbcodnkfbiaadoor", sum := "777602d526453593e5cbd30f6afcd4c6d2c5b79e6de196488c12d1cb22bedafe", func := "armoire/armoirelaw12.PatchTurns", spec := "patchTurns", named := ["math/bits.deBruijn32tab"], apart := false, laid := [("math/bits.deBruijn32tab", laid_math_bits_deBruijn32tab)] }
def PatchTurnsSaid : Prop := patchTurnsRow.holds Tryd.pinned (OpenSpec.ofChange patchTurnsSpec)

/-- ITS FALSE NEIGHBOUR: 'it returns false'. Refute it at one input. -/
def patchTurnsWrong : ChangeSpec := { name := "patchTurns", fn := fun _ => fun
  | [d1, d2, d3] => { results := [.lit (.bool false)], args := [d1, d2, d3] }
  | _ => none }
def PatchTurnsWrongFalsely : Prop := patchTurnsRow.holds Tryd.pinned (OpenSpec.ofChange patchTurnsWrong)

/- THE SECOND FORM. 'bulk': how many values and letters a reading holds, each counted each time it is reached (what is shared counts as often as it is met; a slice's spare places count too). A statement '..UptoSaid' is the law's where the arguments, and the package variables that the reading takes, are together of bulk at most 1048576: NARROWER than '..Said'. Prove '..Said' where nothing that the law and all that it calls make is longer than what came in: it says more and counts as full. Else prove '..UptoSaid'. A law counts once. -/
mutual
def uptoBulk {H : Type} : DataW H → Nat
  | .lit (.string bytes) => bytes.length + 1
  | .lit _ => 1
  | .nil => 1
  | .ptr d => uptoBulk d + 1
  | .slice elems spare => uptoBulkAll elems + uptoBulkAll spare + 1
  | .agg parts => uptoBulkAll parts + 1
  | .iface _ d => uptoBulk d + 1
  | .map entries => uptoBulkEntries entries + 1
  | .held _ => 1
def uptoBulkAll {H : Type} : List (DataW H) → Nat
  | [] => 0
  | d :: r => uptoBulk d + uptoBulkAll r
def uptoBulkEntries {H : Type} : List (Lit × DataW H) → Nat
  | [] => 0
  | x :: r => uptoBulkEntry x + uptoBulkEntries r
def uptoBulkEntry {H : Type} : Lit × DataW H → Nat
  | (.string bytes, d) => bytes.length + uptoBulk d + 1
  | (_, d) => uptoBulk d + 1
 end
def uptoSmall : (H : Type) → List (DataW H) → Bool := fun _ ds => decide (uptoBulkAll ds ≤ 1048576)
def OpenSpec.upto (s : _root_.Go.ChangeSpec) : _root_.Go.OpenSpec := { _root_.Go.OpenSpec.ofChange s with cond := some uptoSmall }

/-- 'armoirelaw12.PatchMakes', WHERE WHAT IT READS IS OF BULK AT MOST 1048576: true; the input reads as it did. -/
def patchMakesUptoRow : OpenClaim := { program := "ytlobbcodnkfbiaadoor", sum := "777602d526453593e5cbd30f6afcd4c6d2c5b79e6de196488c12d1cb22bedafe", func := "armoire/armoirelaw12.PatchMakes", spec := "patchMakes", named := ["math/bits.deBruijn32tab"], apart := false, laid := [("math/bits.deBruijn32tab", laid_math_bits_deBruijn32tab)], narrowed := true }
def PatchMakesUptoSaid : Prop := patchMakesUptoRow.holds Tryd.pinned (OpenSpec.upto patchMakesSpec)

/-- 'armoirelaw12.PatchWrites', WHERE WHAT IT READS IS OF BULK AT MOST 1048576: true; the input reads as it did. -/
def patchWritesUptoRow : OpenClaim := { program := "ytlobbcodnkfbiaadoor", sum := "777602d526453593e5cbd30f6afcd4c6d2c5b79e6de196488c12d1cb22bedafe", func := "armoire/armoirelaw12.PatchWrites", spec := "patchWrites", named := ["math/bits.deBruijn32tab"], apart := false, laid := [("math/bits.deBruijn32tab", laid_math_bits_deBruijn32tab)], narrowed := true }
def PatchWritesUptoSaid : Prop := patchWritesUptoRow.holds Tryd.pinned (OpenSpec.upto patchWritesSpec)

/-- 'armoirelaw12.PatchLays', WHERE WHAT IT READS IS OF BULK AT MOST 1048576: true; the input reads as it did. -/
def patchLaysUptoRow : OpenClaim := { program := "ytlobbcodnkfbiaadoor", sum := "777602d526453593e5cbd30f6afcd4c6d2c5b79e6de196488c12d1cb22bedafe", func := "armoire/armoirelaw12.PatchLays", spec := "patchLays", named := ["math/bits.deBruijn32tab"], apart := false, laid := [("math/bits.deBruijn32tab", laid_math_bits_deBruijn32tab)], narrowed := true }
def PatchLaysUptoSaid : Prop := patchLaysUptoRow.holds Tryd.pinned (OpenSpec.upto patchLaysSpec)

/-- 'armoirelaw12.PatchJoins', WHERE WHAT IT READS IS OF BULK AT MOST 1048576: true; the input reads as it did. -/
def patchJoinsUptoRow : OpenClaim := { program := "ytlobbcodnkfbiaadoor", sum := "777602d526453593e5cbd30f6afcd4c6d2c5b79e6de196488c12d1cb22bedafe", func := "armoire/armoirelaw12.PatchJoins", spec := "patchJoins", named := ["math/bits.deBruijn32tab"], apart := false, laid := [("math/bits.deBruijn32tab", laid_math_bits_deBruijn32tab)], narrowed := true }
def PatchJoinsUptoSaid : Prop := patchJoinsUptoRow.holds Tryd.pinned (OpenSpec.upto patchJoinsSpec)

/-- 'armoirelaw12.PatchTurns', WHERE WHAT IT READS IS OF BULK AT MOST 1048576: true; the input reads as it did. -/
def patchTurnsUptoRow : OpenClaim := { program := "ytlobbcodnkfbiaadoor", sum := "777602d526453593e5cbd30f6afcd4c6d2c5b79e6de196488c12d1cb22bedafe", func := "armoire/armoirelaw12.PatchTurns", spec := "patchTurns", named := ["math/bits.deBruijn32tab"], apart := false, laid := [("math/bits.deBruijn32tab", laid_math_bits_deBruijn32tab)], narrowed := true }
def PatchTurnsUptoSaid : Prop := patchTurnsUptoRow.holds Tryd.pinned (OpenSpec.upto patchTurnsSpec)

end Rows
end Go.Proofs.YtlobbcodnkfbiaaDoor
