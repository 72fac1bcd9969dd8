/-
  DERIVED. GIVEN WITH THE SEED: THE CARDS: each row of YtejiomhoflnboaaDoorRows.lean that lists a variable, with what it lists TIED to the program's text (the seventh form; the later family's looks); each row that meets fmt, with fmt's text TOLD by the authors' own Lean function (tested against real Go, not proved from fmt's source: count such statements apart). THE CARD IS WHAT COUNTS. Prove the row's statement (the work); the ties are given (YtejiomhoflnboaaDoorTie.lean); close each card by the builder's one call (the guide's Derived/Test/ToyasCard.lean, 'card_holds'). Laid BY PROGRAM, IN A SANDBOX (cutbox-door.mjs). By AI agents, Wed Nov 11 2026. No macro, syntax, notation, axiom, sorry.
-/
import Derived.Test.YtejiomhoflnboaaDoorRows
import GoSem.ClaimSeven
namespace Go.Proofs.YtejiomhoflnboaaDoor
namespace Rows

/-- THE TIED CARD OF 'laws.FnExactFreeCells'. -/
def fnExactFreeCellsCard : Claim7 := { stood := { row := fnExactFreeCellsRow, standIns := [], harness := (true, "4a182926ec762b0eb94bef2fbdcd0ced45a6d22b8d887d494e258833d06e4fa5"), looks := false }, kinds := [], alts := [], laidByText := true, laidKinds := [.data, .data, .data], laidTests := true, laidLooks := .later }
def FnExactFreeCellsCardSaid : Prop := Claim7.holds Tryd.pinned (.plain (OpenSpec.ofChange fnExactFreeCellsSpec)) fnExactFreeCellsCard

/-- THE TIED CARD OF 'laws.FnSelfClear'. -/
def fnSelfClearCard : Claim7 := { stood := { row := fnSelfClearRow, standIns := [], harness := (true, "4a182926ec762b0eb94bef2fbdcd0ced45a6d22b8d887d494e258833d06e4fa5"), looks := false }, kinds := [], alts := [], laidByText := true, laidKinds := [.data, .data, .data], laidTests := true, laidLooks := .later }
def FnSelfClearCardSaid : Prop := Claim7.holds Tryd.pinned (.plain (OpenSpec.ofChange fnSelfClearSpec)) fnSelfClearCard

/-- THE SECOND FORM's CARD OF 'laws.FnExactFreeCells'. -/
def fnExactFreeCellsUptoCard : Claim7 := { stood := { row := fnExactFreeCellsUptoRow, standIns := [], harness := (true, "4a182926ec762b0eb94bef2fbdcd0ced45a6d22b8d887d494e258833d06e4fa5"), looks := false }, kinds := [], alts := [], laidByText := true, laidKinds := [.data, .data, .data], laidTests := true, laidLooks := .later }
def FnExactFreeCellsUptoCardSaid : Prop := Claim7.holds Tryd.pinned (.plain (OpenSpec.upto fnExactFreeCellsSpec)) fnExactFreeCellsUptoCard

/-- THE SECOND FORM's CARD OF 'laws.FnSelfClear'. -/
def fnSelfClearUptoCard : Claim7 := { stood := { row := fnSelfClearUptoRow, standIns := [], harness := (true, "4a182926ec762b0eb94bef2fbdcd0ced45a6d22b8d887d494e258833d06e4fa5"), looks := false }, kinds := [], alts := [], laidByText := true, laidKinds := [.data, .data, .data], laidTests := true, laidLooks := .later }
def FnSelfClearUptoCardSaid : Prop := Claim7.holds Tryd.pinned (.plain (OpenSpec.upto fnSelfClearSpec)) fnSelfClearUptoCard
end Rows
end Go.Proofs.YtejiomhoflnboaaDoor
