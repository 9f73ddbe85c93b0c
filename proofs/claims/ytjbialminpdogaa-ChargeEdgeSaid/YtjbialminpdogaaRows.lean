/-
  No cell of these rows narrows 'for every input' (looked for: loops, veiled, ifaces, maps, wideKeys, modest, calm, conditions, laid).
  DERIVED. THE GIVEN ROWS OF THIS SEAT. 4 by the template 'for every input the law returns true; each argument reads behind the call as it read before'; 0 by the template 'total and deterministic' (their statements: YtjbialminpdogaaTotals.lean).
  GIVEN WITH THE SEED: the statements are not yours to turn. If you find one false, say at which input.
  Laid BY PROGRAM, IN A SANDBOX (cutbox-rows.mjs): the forced cells as the released guide's own fill.sh prints them over the translation 5b413fc568f9facf… (all of the seat's roots in one cut). By AI agents, Wed Nov 11 2026. No macro, syntax, notation, axiom, sorry.
-/
import Derived.Test.YtjbialminpdogaaChecked
import GoSem.Claim
import GoSem.ClaimJoined
import GoSem.ClaimMapViews
import Derived.JoinedTies
import Derived.KernelRfl
namespace Go.Proofs.Ytjbialminpdogaa
/- THE CELL 'sum', in the pinned program and in every row, IS THE sha256 OF THE DUMP (.gsa) THAT YtjbialminpdogaaProg.lean LOADS. Nothing in Lean hashes anything: it is a label: what it is worth is what the hold of that sum in a sandbox is worth. -/
noncomputable def Try.pinned : Pinned := { name := "ytjbialminpdogaa", sum := "5b413fc568f9facfe7987e07a75bc54b3be973def3e00b4a7bf96d47e49130a8", checked := Try.checked }
namespace Rows
def none {H : Type} : Left H := { results := [], args := [] }

/-- 'armoirelaw20.ChargeBooks': WHATEVER THE INPUT: true; the input reads as it did. -/
def chargeBooksSpec : ChangeSpec := { name := "chargeBooks", fn := fun _ => fun
  | [d1, d2, d3, d4, d5] => { results := [.lit (.bool true)], args := [d1, d2, d3, d4, d5] }
  | _ => none }
def chargeBooksRow : OpenClaim := { program := "ytjbialminpdogaa", sum := "5b413fc568f9facfe7987e07a75bc54b3be973def3e00b4a7bf96d47e49130a8", func := "armoire/armoirelaw20.ChargeBooks", spec := "chargeBooks", unfollowed := true, recurses := true, apart := false }
def ChargeBooksSaid : Prop := chargeBooksRow.holds Try.pinned (OpenSpec.ofChange chargeBooksSpec)

/-- ITS FALSE NEIGHBOUR: 'it returns false'. Refute it at one input. -/
def chargeBooksWrong : ChangeSpec := { name := "chargeBooks", fn := fun _ => fun
  | [d1, d2, d3, d4, d5] => { results := [.lit (.bool false)], args := [d1, d2, d3, d4, d5] }
  | _ => none }
def ChargeBooksWrongFalsely : Prop := chargeBooksRow.holds Try.pinned (OpenSpec.ofChange chargeBooksWrong)

/-- 'armoirelaw20.ChargeCommits': WHATEVER THE INPUT: true; the input reads as it did. -/
def chargeCommitsSpec : ChangeSpec := { name := "chargeCommits", fn := fun _ => fun
  | [d1, d2, d3, d4, d5] => { results := [.lit (.bool true)], args := [d1, d2, d3, d4, d5] }
  | _ => none }
def chargeCommitsRow : OpenClaim := { program := "ytjbialminpdogaa", sum := "5b413fc568f9facfe7987e07a75bc54b3be973def3e00b4a7bf96d47e49130a8", func := "armoire/armoirelaw20.ChargeCommits", spec := "chargeCommits", unfollowed := true, recurses := true, apart := false }
def ChargeCommitsSaid : Prop := chargeCommitsRow.holds Try.pinned (OpenSpec.ofChange chargeCommitsSpec)

/-- ITS FALSE NEIGHBOUR: 'it returns false'. Refute it at one input. -/
def chargeCommitsWrong : ChangeSpec := { name := "chargeCommits", fn := fun _ => fun
  | [d1, d2, d3, d4, d5] => { results := [.lit (.bool false)], args := [d1, d2, d3, d4, d5] }
  | _ => none }
def ChargeCommitsWrongFalsely : Prop := chargeCommitsRow.holds Try.pinned (OpenSpec.ofChange chargeCommitsWrong)

/-- 'armoirelaw20.ChargeLess': WHATEVER THE INPUT: true; the input reads as it did. -/
def chargeLessSpec : ChangeSpec := { name := "chargeLess", fn := fun _ => fun
  | [d1, d2, d3, d4, d5, d6] => { results := [.lit (.bool true)], args := [d1, d2, d3, d4, d5, d6] }
  | _ => none }
def chargeLessRow : OpenClaim := { program := "ytjbialminpdogaa", sum := "5b413fc568f9facfe7987e07a75bc54b3be973def3e00b4a7bf96d47e49130a8", func := "armoire/armoirelaw20.ChargeLess", spec := "chargeLess", unfollowed := true, recurses := true, apart := false }
def ChargeLessSaid : Prop := chargeLessRow.holds Try.pinned (OpenSpec.ofChange chargeLessSpec)

/-- ITS FALSE NEIGHBOUR: 'it returns false'. Refute it at one input. -/
def chargeLessWrong : ChangeSpec := { name := "chargeLess", fn := fun _ => fun
  | [d1, d2, d3, d4, d5, d6] => { results := [.lit (.bool false)], args := [d1, d2, d3, d4, d5, d6] }
  | _ => none }
def ChargeLessWrongFalsely : Prop := chargeLessRow.holds Try.pinned (OpenSpec.ofChange chargeLessWrong)

/-- 'armoirelaw20.ChargeEdge': WHATEVER THE INPUT: true; the input reads as it did. -/
def chargeEdgeSpec : ChangeSpec := { name := "chargeEdge", fn := fun _ => fun
  | [d1, d2, d3, d4] => { results := [.lit (.bool true)], args := [d1, d2, d3, d4] }
  | _ => none }
def chargeEdgeRow : OpenClaim := { program := "ytjbialminpdogaa", sum := "5b413fc568f9facfe7987e07a75bc54b3be973def3e00b4a7bf96d47e49130a8", func := "armoire/armoirelaw20.ChargeEdge", spec := "chargeEdge", unfollowed := true, recurses := true, apart := false }
def ChargeEdgeSaid : Prop := chargeEdgeRow.holds Try.pinned (OpenSpec.ofChange chargeEdgeSpec)

/-- ITS FALSE NEIGHBOUR: 'it returns false'. Refute it at one input. -/
def chargeEdgeWrong : ChangeSpec := { name := "chargeEdge", fn := fun _ => fun
  | [d1, d2, d3, d4] => { results := [.lit (.bool false)], args := [d1, d2, d3, d4] }
  | _ => none }
def ChargeEdgeWrongFalsely : Prop := chargeEdgeRow.holds Try.pinned (OpenSpec.ofChange chargeEdgeWrong)

/- THE SECOND FORM. 'bulk': how many values and letters a reading holds, each counted each time it is reached (what is shared counts as often as it is met; a slice's spare places count too). A statement '..UptoSaid' is the law's where the arguments, and the package variables that the reading takes, are together of bulk at most 1048576: NARROWER than '..Said'. Prove '..Said' where nothing that the law and all that it calls make is longer than what came in: it says more and counts as full. Else prove '..UptoSaid'. A law counts once. -/
mutual
def uptoBulk {H : Type} : DataW H → Nat
  | .lit (.string bytes) => bytes.length + 1
  | .lit _ => 1
  | .nil => 1
  | .ptr d => uptoBulk d + 1
  | .slice elems spare => uptoBulkAll elems + uptoBulkAll spare + 1
  | .agg parts => uptoBulkAll parts + 1
  | .iface _ d => uptoBulk d + 1
  | .map entries => uptoBulkEntries entries + 1
  | .held _ => 1
def uptoBulkAll {H : Type} : List (DataW H) → Nat
  | [] => 0
  | d :: r => uptoBulk d + uptoBulkAll r
def uptoBulkEntries {H : Type} : List (Lit × DataW H) → Nat
  | [] => 0
  | x :: r => uptoBulkEntry x + uptoBulkEntries r
def uptoBulkEntry {H : Type} : Lit × DataW H → Nat
  | (.string bytes, d) => bytes.length + uptoBulk d + 1
  | (_, d) => uptoBulk d + 1
 end
def uptoSmall : (H : Type) → List (DataW H) → Bool := fun _ ds => decide (uptoBulkAll ds ≤ 1048576)
def OpenSpec.upto (s : _root_.Go.ChangeSpec) : _root_.Go.OpenSpec := { _root_.Go.OpenSpec.ofChange s with cond := some uptoSmall }

/-- 'armoirelaw20.ChargeBooks', WHERE WHAT IT READS IS OF BULK AT MOST 1048576: true; the input reads as it did. -/
def chargeBooksUptoRow : OpenClaim := { program := "ytjbialminpdogaa", sum := "5b413fc568f9facfe7987e07a75bc54b3be973def3e00b4a7bf96d47e49130a8", func := "armoire/armoirelaw20.ChargeBooks", spec := "chargeBooks", unfollowed := true, recurses := true, apart := false, narrowed := true }
def ChargeBooksUptoSaid : Prop := chargeBooksUptoRow.holds Try.pinned (OpenSpec.upto chargeBooksSpec)

/-- 'armoirelaw20.ChargeCommits', WHERE WHAT IT READS IS OF BULK AT MOST 1048576: true; the input reads as it did. -/
def chargeCommitsUptoRow : OpenClaim := { program := "ytjbialminpdogaa", sum := "5b413fc568f9facfe7987e07a75bc54b3be973def3e00b4a7bf96d47e49130a8", func := "armoire/armoirelaw20.ChargeCommits", spec := "chargeCommits", unfollowed := true, recurses := true, apart := false, narrowed := true }
def ChargeCommitsUptoSaid : Prop := chargeCommitsUptoRow.holds Try.pinned (OpenSpec.upto chargeCommitsSpec)

/-- 'armoirelaw20.ChargeLess', WHERE WHAT IT READS IS OF BULK AT MOST 1048576: true; the input reads as it did. -/
def chargeLessUptoRow : OpenClaim := { program := "ytjbialminpdogaa", sum := "5b413fc568f9facfe7987e07a75bc54b3be973def3e00b4a7bf96d47e49130a8", func := "armoire/armoirelaw20.ChargeLess", spec := "chargeLess", unfollowed := true, recurses := true, apart := false, narrowed := true }
def ChargeLessUptoSaid : Prop := chargeLessUptoRow.holds Try.pinned (OpenSpec.upto chargeLessSpec)

/-- 'armoirelaw20.ChargeEdge', WHERE WHAT IT READS IS OF BULK AT MOST 1048576: true; the input reads as it did. -/
def chargeEdgeUptoRow : OpenClaim := { program := "ytjbialminpdogaa", sum := "5b413fc568f9facfe7987e07a75bc54b3be973def3e00b4a7bf96d47e49130a8", func := "armoire/armoirelaw20.ChargeEdge", spec := "chargeEdge", unfollowed := true, recurses := true, apart := false, narrowed := true }
def ChargeEdgeUptoSaid : Prop := chargeEdgeUptoRow.holds Try.pinned (OpenSpec.upto chargeEdgeSpec)

end Rows
end Go.Proofs.Ytjbialminpdogaa
