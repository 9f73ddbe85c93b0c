/-
  DERIVED. GIVEN WITH THE SEED: THE CARDS: each row of YtlobbcodnkfbiaaDoorRows.lean that lists a variable, with what it lists TIED to the program's text (the seventh form; the later family's looks); each row that meets fmt, with fmt's text TOLD by the authors' own Lean function (tested against real Go, not proved from fmt's source: count such statements apart). THE CARD IS WHAT COUNTS. Prove the row's statement (the work); the ties are given (YtlobbcodnkfbiaaDoorTie.lean); close each card by the builder's one call (the guide's Derived/Test/ToyasCard.lean, 'card_holds'). Laid BY PROGRAM, IN A SANDBOX (cutbox-door.mjs). By AI agents, Wed Nov 11 2026. No macro, syntax, notation, axiom, sorry.
-/
import Derived.Test.YtlobbcodnkfbiaaDoorRows
import GoSem.ClaimSeven
namespace Go.Proofs.YtlobbcodnkfbiaaDoor
namespace Rows

/-- THE TIED CARD OF 'armoirelaw12.PatchMakes'. -/
def patchMakesCard : Claim7 := { stood := { row := patchMakesRow, standIns := [], harness := (true, "601129b355d28c78114045df8d5d904cb465bb3b1348ff0eadc76ec3974fccfe"), looks := false }, kinds := [], alts := [], laidByText := true, laidKinds := [.data], laidTests := true, laidLooks := .later }
def PatchMakesCardSaid : Prop := Claim7.holds Tryd.pinned (.plain (OpenSpec.ofChange patchMakesSpec)) patchMakesCard

/-- THE TIED CARD OF 'armoirelaw12.PatchWrites'. -/
def patchWritesCard : Claim7 := { stood := { row := patchWritesRow, standIns := [], harness := (true, "601129b355d28c78114045df8d5d904cb465bb3b1348ff0eadc76ec3974fccfe"), looks := false }, kinds := [], alts := [], laidByText := true, laidKinds := [.data], laidTests := true, laidLooks := .later }
def PatchWritesCardSaid : Prop := Claim7.holds Tryd.pinned (.plain (OpenSpec.ofChange patchWritesSpec)) patchWritesCard

/-- THE TIED CARD OF 'armoirelaw12.PatchLays'. -/
def patchLaysCard : Claim7 := { stood := { row := patchLaysRow, standIns := [], harness := (true, "601129b355d28c78114045df8d5d904cb465bb3b1348ff0eadc76ec3974fccfe"), looks := false }, kinds := [], alts := [], laidByText := true, laidKinds := [.data], laidTests := true, laidLooks := .later }
def PatchLaysCardSaid : Prop := Claim7.holds Tryd.pinned (.plain (OpenSpec.ofChange patchLaysSpec)) patchLaysCard

/-- THE TIED CARD OF 'armoirelaw12.PatchJoins'. -/
def patchJoinsCard : Claim7 := { stood := { row := patchJoinsRow, standIns := [], harness := (true, "601129b355d28c78114045df8d5d904cb465bb3b1348ff0eadc76ec3974fccfe"), looks := false }, kinds := [], alts := [], laidByText := true, laidKinds := [.data], laidTests := true, laidLooks := .later }
def PatchJoinsCardSaid : Prop := Claim7.holds Tryd.pinned (.plain (OpenSpec.ofChange patchJoinsSpec)) patchJoinsCard

/-- THE TIED CARD OF 'armoirelaw12.PatchTurns'. -/
def patchTurnsCard : Claim7 := { stood := { row := patchTurnsRow, standIns := [], harness := (true, "601129b355d28c78114045df8d5d904cb465bb3b1348ff0eadc76ec3974fccfe"), looks := false }, kinds := [], alts := [], laidByText := true, laidKinds := [.data], laidTests := true, laidLooks := .later }
def PatchTurnsCardSaid : Prop := Claim7.holds Tryd.pinned (.plain (OpenSpec.ofChange patchTurnsSpec)) patchTurnsCard

/-- THE SECOND FORM's CARD OF 'armoirelaw12.PatchMakes'. -/
def patchMakesUptoCard : Claim7 := { stood := { row := patchMakesUptoRow, standIns := [], harness := (true, "601129b355d28c78114045df8d5d904cb465bb3b1348ff0eadc76ec3974fccfe"), looks := false }, kinds := [], alts := [], laidByText := true, laidKinds := [.data], laidTests := true, laidLooks := .later }
def PatchMakesUptoCardSaid : Prop := Claim7.holds Tryd.pinned (.plain (OpenSpec.upto patchMakesSpec)) patchMakesUptoCard

/-- THE SECOND FORM's CARD OF 'armoirelaw12.PatchWrites'. -/
def patchWritesUptoCard : Claim7 := { stood := { row := patchWritesUptoRow, standIns := [], harness := (true, "601129b355d28c78114045df8d5d904cb465bb3b1348ff0eadc76ec3974fccfe"), looks := false }, kinds := [], alts := [], laidByText := true, laidKinds := [.data], laidTests := true, laidLooks := .later }
def PatchWritesUptoCardSaid : Prop := Claim7.holds Tryd.pinned (.plain (OpenSpec.upto patchWritesSpec)) patchWritesUptoCard

/-- THE SECOND FORM's CARD OF 'armoirelaw12.PatchLays'. -/
def patchLaysUptoCard : Claim7 := { stood := { row := patchLaysUptoRow, standIns := [], harness := (true, "601129b355d28c78114045df8d5d904cb465bb3b1348ff0eadc76ec3974fccfe"), looks := false }, kinds := [], alts := [], laidByText := true, laidKinds := [.data], laidTests := true, laidLooks := .later }
def PatchLaysUptoCardSaid : Prop := Claim7.holds Tryd.pinned (.plain (OpenSpec.upto patchLaysSpec)) patchLaysUptoCard

/-- THE SECOND FORM's CARD OF 'armoirelaw12.PatchJoins'. -/
def patchJoinsUptoCard : Claim7 := { stood := { row := patchJoinsUptoRow, standIns := [], harness := (true, "601129b355d28c78114045df8d5d904cb465bb3b1348ff0eadc76ec3974fccfe"), looks := false }, kinds := [], alts := [], laidByText := true, laidKinds := [.data], laidTests := true, laidLooks := .later }
def PatchJoinsUptoCardSaid : Prop := Claim7.holds Tryd.pinned (.plain (OpenSpec.upto patchJoinsSpec)) patchJoinsUptoCard

/-- THE SECOND FORM's CARD OF 'armoirelaw12.PatchTurns'. -/
def patchTurnsUptoCard : Claim7 := { stood := { row := patchTurnsUptoRow, standIns := [], harness := (true, "601129b355d28c78114045df8d5d904cb465bb3b1348ff0eadc76ec3974fccfe"), looks := false }, kinds := [], alts := [], laidByText := true, laidKinds := [.data], laidTests := true, laidLooks := .later }
def PatchTurnsUptoCardSaid : Prop := Claim7.holds Tryd.pinned (.plain (OpenSpec.upto patchTurnsSpec)) patchTurnsUptoCard
end Rows
end Go.Proofs.YtlobbcodnkfbiaaDoor
