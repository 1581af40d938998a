/-
  DERIVED. GIVEN WITH THE SEED: THE CARDS: each row of YtghhakilkmbpdaaDoorRows.lean that lists a variable, with what it lists TIED to the program's text (the seventh form; the later family's looks); each row that meets fmt, with fmt's text TOLD by the authors' own Lean function (tested against real Go, not proved from fmt's source: count such statements apart). THE CARD IS WHAT COUNTS. Prove the row's statement (the work); the ties are given (YtghhakilkmbpdaaDoorTie.lean); close each card by the builder's one call (the guide's Derived/Test/ToyasCard.lean, 'card_holds'). Laid BY PROGRAM, IN A SANDBOX (cutbox-door.mjs). By AI agents, Wed Nov 11 2026. No macro, syntax, notation, axiom, sorry.
-/
import Derived.Test.YtghhakilkmbpdaaDoorRows
import GoSem.ClaimSeven
namespace Go.Proofs.YtghhakilkmbpdaaDoor
namespace Rows

/-- THE TIED CARD OF 'gimletlaw28.MendLeast'. -/
def mendLeastCard : Claim7 := { stood := { row := mendLeastRow, standIns := [], harness := (true, "9a2fcf19ed6bcd4f518e4d503d496e19db1cc46080dc1fa257fcd6a99ff0227c"), looks := true }, kinds := [], alts := [], laidByText := true, laidKinds := [.data, .widerDeep, .pinned], laidTests := true, laidLooks := .later }
def MendLeastCardSaid : Prop := Claim7.holds Tryd.pinned (.plain (OpenSpec.ofChange mendLeastSpec)) mendLeastCard

/-- THE SECOND FORM's CARD OF 'gimletlaw28.MendLeast'. -/
def mendLeastUptoCard : Claim7 := { stood := { row := mendLeastUptoRow, standIns := [], harness := (true, "9a2fcf19ed6bcd4f518e4d503d496e19db1cc46080dc1fa257fcd6a99ff0227c"), looks := true }, kinds := [], alts := [], laidByText := true, laidKinds := [.data, .widerDeep, .pinned], laidTests := true, laidLooks := .later }
def MendLeastUptoCardSaid : Prop := Claim7.holds Tryd.pinned (.plain (OpenSpec.upto mendLeastSpec)) mendLeastUptoCard
end Rows
end Go.Proofs.YtghhakilkmbpdaaDoor
