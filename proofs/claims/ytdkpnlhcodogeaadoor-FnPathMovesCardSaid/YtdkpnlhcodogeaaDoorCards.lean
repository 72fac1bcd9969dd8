/-
  DERIVED. GIVEN WITH THE SEED: THE CARDS: each row of YtdkpnlhcodogeaaDoorRows.lean that lists a variable, with what it lists TIED to the program's text (the seventh form; the later family's looks); each row that meets fmt, with fmt's text TOLD by the authors' own Lean function (tested against real Go, not proved from fmt's source: count such statements apart). THE CARD IS WHAT COUNTS. Prove the row's statement (the work); the ties are given (YtdkpnlhcodogeaaDoorTie.lean); close each card by the builder's one call (the guide's Derived/Test/ToyasCard.lean, 'card_holds'). Laid BY PROGRAM, IN A SANDBOX (cutbox-door.mjs). By AI agents, Wed Nov 11 2026. No macro, syntax, notation, axiom, sorry.
-/
import Derived.Test.YtdkpnlhcodogeaaDoorRows
import GoSem.ClaimSeven
namespace Go.Proofs.YtdkpnlhcodogeaaDoor
namespace Rows

/-- THE TIED CARD OF 'laws.FnFreeCells'. -/
def fnFreeCellsCard : Claim7 := { stood := { row := fnFreeCellsRow, standIns := [], harness := (true, "16bbdc3ad5447965b735ab462f47ba12bb60540d08a1c5142685da0634440668"), looks := false }, kinds := [], alts := [], laidByText := true, laidKinds := [.data, .data, .data], laidTests := true, laidLooks := .later }
def FnFreeCellsCardSaid : Prop := Claim7.holds Tryd.pinned (.plain (OpenSpec.ofChange fnFreeCellsSpec)) fnFreeCellsCard

/-- THE TIED CARD OF 'laws.FnExactFreeCells'. -/
def fnExactFreeCellsCard : Claim7 := { stood := { row := fnExactFreeCellsRow, standIns := [], harness := (true, "16bbdc3ad5447965b735ab462f47ba12bb60540d08a1c5142685da0634440668"), looks := false }, kinds := [], alts := [], laidByText := true, laidKinds := [.data, .data, .data], laidTests := true, laidLooks := .later }
def FnExactFreeCellsCardSaid : Prop := Claim7.holds Tryd.pinned (.plain (OpenSpec.ofChange fnExactFreeCellsSpec)) fnExactFreeCellsCard

/-- THE TIED CARD OF 'laws.FnPathMoves'. -/
def fnPathMovesCard : Claim7 := { stood := { row := fnPathMovesRow, standIns := [], harness := (true, "16bbdc3ad5447965b735ab462f47ba12bb60540d08a1c5142685da0634440668"), looks := false }, kinds := [], alts := [], laidByText := true, laidKinds := [.data, .data, .data], laidTests := true, laidLooks := .later }
def FnPathMovesCardSaid : Prop := Claim7.holds Tryd.pinned (.plain (OpenSpec.ofChange fnPathMovesSpec)) fnPathMovesCard

/-- THE TIED CARD OF 'laws.FnExactArcPoints'. -/
def fnExactArcPointsCard : Claim7 := { stood := { row := fnExactArcPointsRow, standIns := [], harness := (true, "16bbdc3ad5447965b735ab462f47ba12bb60540d08a1c5142685da0634440668"), looks := false }, kinds := [], alts := [], laidByText := true, laidKinds := [.data, .data, .data], laidTests := true, laidLooks := .later }
def FnExactArcPointsCardSaid : Prop := Claim7.holds Tryd.pinned (.plain (OpenSpec.ofChange fnExactArcPointsSpec)) fnExactArcPointsCard

/-- THE TIED CARD OF 'laws.FnArcPoints'. -/
def fnArcPointsCard : Claim7 := { stood := { row := fnArcPointsRow, standIns := [], harness := (true, "16bbdc3ad5447965b735ab462f47ba12bb60540d08a1c5142685da0634440668"), looks := false }, kinds := [], alts := [], laidByText := true, laidKinds := [.data, .data, .data], laidTests := true, laidLooks := .later }
def FnArcPointsCardSaid : Prop := Claim7.holds Tryd.pinned (.plain (OpenSpec.ofChange fnArcPointsSpec)) fnArcPointsCard

/-- THE TIED CARD OF 'laws.FnExactSelfClear'. -/
def fnExactSelfClearCard : Claim7 := { stood := { row := fnExactSelfClearRow, standIns := [], harness := (true, "16bbdc3ad5447965b735ab462f47ba12bb60540d08a1c5142685da0634440668"), looks := false }, kinds := [], alts := [], laidByText := true, laidKinds := [.data, .data, .data], laidTests := true, laidLooks := .later }
def FnExactSelfClearCardSaid : Prop := Claim7.holds Tryd.pinned (.plain (OpenSpec.ofChange fnExactSelfClearSpec)) fnExactSelfClearCard

/-- THE TIED CARD OF 'laws.FnSelfClear'. -/
def fnSelfClearCard : Claim7 := { stood := { row := fnSelfClearRow, standIns := [], harness := (true, "16bbdc3ad5447965b735ab462f47ba12bb60540d08a1c5142685da0634440668"), looks := false }, kinds := [], alts := [], laidByText := true, laidKinds := [.data, .data, .data], laidTests := true, laidLooks := .later }
def FnSelfClearCardSaid : Prop := Claim7.holds Tryd.pinned (.plain (OpenSpec.ofChange fnSelfClearSpec)) fnSelfClearCard

/-- THE TIED CARD OF 'laws.FnExactArmClear'. -/
def fnExactArmClearCard : Claim7 := { stood := { row := fnExactArmClearRow, standIns := [], harness := (true, "16bbdc3ad5447965b735ab462f47ba12bb60540d08a1c5142685da0634440668"), looks := false }, kinds := [], alts := [], laidByText := true, laidKinds := [.data, .data, .data], laidTests := true, laidLooks := .later }
def FnExactArmClearCardSaid : Prop := Claim7.holds Tryd.pinned (.plain (OpenSpec.ofChange fnExactArmClearSpec)) fnExactArmClearCard

/-- THE TIED CARD OF 'laws.FnExactFirstContact'. -/
def fnExactFirstContactCard : Claim7 := { stood := { row := fnExactFirstContactRow, standIns := [], harness := (true, "16bbdc3ad5447965b735ab462f47ba12bb60540d08a1c5142685da0634440668"), looks := false }, kinds := [], alts := [], laidByText := true, laidKinds := [.data, .data, .data], laidTests := true, laidLooks := .later }
def FnExactFirstContactCardSaid : Prop := Claim7.holds Tryd.pinned (.plain (OpenSpec.ofChange fnExactFirstContactSpec)) fnExactFirstContactCard

/-- THE TIED CARD OF 'laws.FnArmClear'. -/
def fnArmClearCard : Claim7 := { stood := { row := fnArmClearRow, standIns := [], harness := (true, "16bbdc3ad5447965b735ab462f47ba12bb60540d08a1c5142685da0634440668"), looks := false }, kinds := [], alts := [], laidByText := true, laidKinds := [.data, .data, .data], laidTests := true, laidLooks := .later }
def FnArmClearCardSaid : Prop := Claim7.holds Tryd.pinned (.plain (OpenSpec.ofChange fnArmClearSpec)) fnArmClearCard

/-- THE TIED CARD OF 'laws.FnFirstContact'. -/
def fnFirstContactCard : Claim7 := { stood := { row := fnFirstContactRow, standIns := [], harness := (true, "16bbdc3ad5447965b735ab462f47ba12bb60540d08a1c5142685da0634440668"), looks := false }, kinds := [], alts := [], laidByText := true, laidKinds := [.data, .data, .data], laidTests := true, laidLooks := .later }
def FnFirstContactCardSaid : Prop := Claim7.holds Tryd.pinned (.plain (OpenSpec.ofChange fnFirstContactSpec)) fnFirstContactCard

/-- THE SECOND FORM's CARD OF 'laws.FnFreeCells'. -/
def fnFreeCellsUptoCard : Claim7 := { stood := { row := fnFreeCellsUptoRow, standIns := [], harness := (true, "16bbdc3ad5447965b735ab462f47ba12bb60540d08a1c5142685da0634440668"), looks := false }, kinds := [], alts := [], laidByText := true, laidKinds := [.data, .data, .data], laidTests := true, laidLooks := .later }
def FnFreeCellsUptoCardSaid : Prop := Claim7.holds Tryd.pinned (.plain (OpenSpec.upto fnFreeCellsSpec)) fnFreeCellsUptoCard

/-- THE SECOND FORM's CARD OF 'laws.FnExactFreeCells'. -/
def fnExactFreeCellsUptoCard : Claim7 := { stood := { row := fnExactFreeCellsUptoRow, standIns := [], harness := (true, "16bbdc3ad5447965b735ab462f47ba12bb60540d08a1c5142685da0634440668"), looks := false }, kinds := [], alts := [], laidByText := true, laidKinds := [.data, .data, .data], laidTests := true, laidLooks := .later }
def FnExactFreeCellsUptoCardSaid : Prop := Claim7.holds Tryd.pinned (.plain (OpenSpec.upto fnExactFreeCellsSpec)) fnExactFreeCellsUptoCard

/-- THE SECOND FORM's CARD OF 'laws.FnPathMoves'. -/
def fnPathMovesUptoCard : Claim7 := { stood := { row := fnPathMovesUptoRow, standIns := [], harness := (true, "16bbdc3ad5447965b735ab462f47ba12bb60540d08a1c5142685da0634440668"), looks := false }, kinds := [], alts := [], laidByText := true, laidKinds := [.data, .data, .data], laidTests := true, laidLooks := .later }
def FnPathMovesUptoCardSaid : Prop := Claim7.holds Tryd.pinned (.plain (OpenSpec.upto fnPathMovesSpec)) fnPathMovesUptoCard

/-- THE SECOND FORM's CARD OF 'laws.FnExactArcPoints'. -/
def fnExactArcPointsUptoCard : Claim7 := { stood := { row := fnExactArcPointsUptoRow, standIns := [], harness := (true, "16bbdc3ad5447965b735ab462f47ba12bb60540d08a1c5142685da0634440668"), looks := false }, kinds := [], alts := [], laidByText := true, laidKinds := [.data, .data, .data], laidTests := true, laidLooks := .later }
def FnExactArcPointsUptoCardSaid : Prop := Claim7.holds Tryd.pinned (.plain (OpenSpec.upto fnExactArcPointsSpec)) fnExactArcPointsUptoCard

/-- THE SECOND FORM's CARD OF 'laws.FnArcPoints'. -/
def fnArcPointsUptoCard : Claim7 := { stood := { row := fnArcPointsUptoRow, standIns := [], harness := (true, "16bbdc3ad5447965b735ab462f47ba12bb60540d08a1c5142685da0634440668"), looks := false }, kinds := [], alts := [], laidByText := true, laidKinds := [.data, .data, .data], laidTests := true, laidLooks := .later }
def FnArcPointsUptoCardSaid : Prop := Claim7.holds Tryd.pinned (.plain (OpenSpec.upto fnArcPointsSpec)) fnArcPointsUptoCard

/-- THE SECOND FORM's CARD OF 'laws.FnExactSelfClear'. -/
def fnExactSelfClearUptoCard : Claim7 := { stood := { row := fnExactSelfClearUptoRow, standIns := [], harness := (true, "16bbdc3ad5447965b735ab462f47ba12bb60540d08a1c5142685da0634440668"), looks := false }, kinds := [], alts := [], laidByText := true, laidKinds := [.data, .data, .data], laidTests := true, laidLooks := .later }
def FnExactSelfClearUptoCardSaid : Prop := Claim7.holds Tryd.pinned (.plain (OpenSpec.upto fnExactSelfClearSpec)) fnExactSelfClearUptoCard

/-- THE SECOND FORM's CARD OF 'laws.FnSelfClear'. -/
def fnSelfClearUptoCard : Claim7 := { stood := { row := fnSelfClearUptoRow, standIns := [], harness := (true, "16bbdc3ad5447965b735ab462f47ba12bb60540d08a1c5142685da0634440668"), looks := false }, kinds := [], alts := [], laidByText := true, laidKinds := [.data, .data, .data], laidTests := true, laidLooks := .later }
def FnSelfClearUptoCardSaid : Prop := Claim7.holds Tryd.pinned (.plain (OpenSpec.upto fnSelfClearSpec)) fnSelfClearUptoCard

/-- THE SECOND FORM's CARD OF 'laws.FnExactArmClear'. -/
def fnExactArmClearUptoCard : Claim7 := { stood := { row := fnExactArmClearUptoRow, standIns := [], harness := (true, "16bbdc3ad5447965b735ab462f47ba12bb60540d08a1c5142685da0634440668"), looks := false }, kinds := [], alts := [], laidByText := true, laidKinds := [.data, .data, .data], laidTests := true, laidLooks := .later }
def FnExactArmClearUptoCardSaid : Prop := Claim7.holds Tryd.pinned (.plain (OpenSpec.upto fnExactArmClearSpec)) fnExactArmClearUptoCard

/-- THE SECOND FORM's CARD OF 'laws.FnExactFirstContact'. -/
def fnExactFirstContactUptoCard : Claim7 := { stood := { row := fnExactFirstContactUptoRow, standIns := [], harness := (true, "16bbdc3ad5447965b735ab462f47ba12bb60540d08a1c5142685da0634440668"), looks := false }, kinds := [], alts := [], laidByText := true, laidKinds := [.data, .data, .data], laidTests := true, laidLooks := .later }
def FnExactFirstContactUptoCardSaid : Prop := Claim7.holds Tryd.pinned (.plain (OpenSpec.upto fnExactFirstContactSpec)) fnExactFirstContactUptoCard

/-- THE SECOND FORM's CARD OF 'laws.FnArmClear'. -/
def fnArmClearUptoCard : Claim7 := { stood := { row := fnArmClearUptoRow, standIns := [], harness := (true, "16bbdc3ad5447965b735ab462f47ba12bb60540d08a1c5142685da0634440668"), looks := false }, kinds := [], alts := [], laidByText := true, laidKinds := [.data, .data, .data], laidTests := true, laidLooks := .later }
def FnArmClearUptoCardSaid : Prop := Claim7.holds Tryd.pinned (.plain (OpenSpec.upto fnArmClearSpec)) fnArmClearUptoCard

/-- THE SECOND FORM's CARD OF 'laws.FnFirstContact'. -/
def fnFirstContactUptoCard : Claim7 := { stood := { row := fnFirstContactUptoRow, standIns := [], harness := (true, "16bbdc3ad5447965b735ab462f47ba12bb60540d08a1c5142685da0634440668"), looks := false }, kinds := [], alts := [], laidByText := true, laidKinds := [.data, .data, .data], laidTests := true, laidLooks := .later }
def FnFirstContactUptoCardSaid : Prop := Claim7.holds Tryd.pinned (.plain (OpenSpec.upto fnFirstContactSpec)) fnFirstContactUptoCard
end Rows
end Go.Proofs.YtdkpnlhcodogeaaDoor
