/-
  DERIVED. GIVEN WITH THE SEED: THE CARDS: each row of YtkdfgoimgcegfaaGreatDoorRows.lean that lists a variable, with what it lists TIED to the program's text (the seventh form; the later family's looks); each row that meets fmt, with fmt's text TOLD by the authors' own Lean function (tested against real Go, not proved from fmt's source: count such statements apart). THE CARD IS WHAT COUNTS. Prove the row's statement (the work); the ties are given (YtkdfgoimgcegfaaGreatDoorTie.lean); close each card by the builder's one call (the guide's Derived/Test/ToyasCard.lean, 'card_holds'). Laid BY PROGRAM, IN A SANDBOX (cutbox-door.mjs). By AI agents, Wed Nov 11 2026. No macro, syntax, notation, axiom, sorry.
-/
import Derived.Test.YtkdfgoimgcegfaaGreatDoorRows
import GoSem.ClaimSeven
namespace Go.Proofs.YtkdfgoimgcegfaaGreatDoor
namespace Rows

/-- THE TIED CARD OF 'euclidlaw35.GoalsStarts'. -/
def goalsStartsCard : Claim7 := { stood := { row := goalsStartsRow, standIns := [], harness := (true, "02f6bb1e580d6c25b736b3f6146ebd618edc729d0069a8afd6aa782d0a3e0a7e"), looks := true }, kinds := [], alts := [], laidByText := true, laidKinds := [.data, .data, .data], laidTests := true, laidLooks := .later }
def GoalsStartsCardSaid : Prop := Claim7.holds Tryz.pinned (.plain (OpenSpec.ofChange goalsStartsSpec)) goalsStartsCard

/-- THE TIED CARD OF 'euclidlaw35.GoalsFocuses'. -/
def goalsFocusesCard : Claim7 := { stood := { row := goalsFocusesRow, standIns := [], harness := (true, "02f6bb1e580d6c25b736b3f6146ebd618edc729d0069a8afd6aa782d0a3e0a7e"), looks := true }, kinds := [], alts := [], laidByText := true, laidKinds := [.data, .data, .data], laidTests := true, laidLooks := .later }
def GoalsFocusesCardSaid : Prop := Claim7.holds Tryz.pinned (.plain (OpenSpec.ofChange goalsFocusesSpec)) goalsFocusesCard

/-- THE SECOND FORM's CARD OF 'euclidlaw35.GoalsStarts'. -/
def goalsStartsUptoCard : Claim7 := { stood := { row := goalsStartsUptoRow, standIns := [], harness := (true, "02f6bb1e580d6c25b736b3f6146ebd618edc729d0069a8afd6aa782d0a3e0a7e"), looks := true }, kinds := [], alts := [], laidByText := true, laidKinds := [.data, .data, .data], laidTests := true, laidLooks := .later }
def GoalsStartsUptoCardSaid : Prop := Claim7.holds Tryz.pinned (.plain (OpenSpec.upto goalsStartsSpec)) goalsStartsUptoCard

/-- THE SECOND FORM's CARD OF 'euclidlaw35.GoalsFocuses'. -/
def goalsFocusesUptoCard : Claim7 := { stood := { row := goalsFocusesUptoRow, standIns := [], harness := (true, "02f6bb1e580d6c25b736b3f6146ebd618edc729d0069a8afd6aa782d0a3e0a7e"), looks := true }, kinds := [], alts := [], laidByText := true, laidKinds := [.data, .data, .data], laidTests := true, laidLooks := .later }
def GoalsFocusesUptoCardSaid : Prop := Claim7.holds Tryz.pinned (.plain (OpenSpec.upto goalsFocusesSpec)) goalsFocusesUptoCard
end Rows
end Go.Proofs.YtkdfgoimgcegfaaGreatDoor
