/- The law euclidlaw35.GoalsFocuses: at every input of bulk at most 1048576 the call returns true, and each argument reads afterwards as it read before. Conditions: those of the given statement, no other (the listed tables of the library start as the program's text lays them; the card ties them, to a pruned copy of the project). Here: the row's closed facts together, then the statement. -/
import Derived.Test.YtkdfgoimgcegfaaGreatDoorJ37
import Derived.Test.YtkdfgoimgcegfaaGreatDoorL36d
set_option linter.unusedSectionVars false
set_option linter.unusedSimpArgs false
set_option linter.unusedVariables false
namespace Go.Proofs.YtkdfgoimgcegfaaGreatDoor
open Go Go.Am Go.Proofs
set_option maxRecDepth 100000 in
theorem jfAll : joinedFacts Tryz.pinned.checked.prog 4 Tryz.f4 (Rows.OpenSpec.upto Rows.goalsFocusesSpec).bare Rows.goalsFocusesUptoRow = true := by
  show joinedFacts Tryz.prog 4 Tryz.f4 sp0 rw0 = true
  unfold joinedFacts
  exact (and2 (and2 (and2 (and2 (and2 (and2 (and2 (and2 (and2 (and2 (and2 (and2 (and2 (and2 (and2 (and2 (and2 (and2 (and2 (and2 (and2 (and2 (and2 (and2 (and2 (and2 (and2 (and2 (and2 (and2 (and2 jf1 jf2) jf3) jf4) jf5) jf6) jf7) jf8) jf9) jf10) jf11) jf12) jf13) jf14) jf15) jf16) jf17) jf18) jf19) jf20) jf21) jf22) jf23) jf24) jf25) jf26) jf27) jf28) jf29) jf30) jf31) jf32)
end Go.Proofs.YtkdfgoimgcegfaaGreatDoor
/- The law euclidlaw35.GoalsFocuses: at every input of bulk at most 1048576 the call returns true, and each argument reads afterwards as it read before. Conditions: those of the given statement, no other (the listed tables of the library start as the program's text lays them; the card ties them, to a pruned copy of the project). -/
namespace Go.Proofs.YtkdfgoimgcegfaaGreatDoor
open Go Go.Am Go.Proofs
open Go.ChangeShapes Go.WideShapes Go.ChangeAt Go.RowKit
set_option maxRecDepth 100000 in
theorem saidUpto : Rows.GoalsFocusesUptoSaid :=
  OpenClaim.holds_of_cond 4 Tryz.f4 rfl rfl rfl rfl rfl rfl rfl ⟨rfl, rfl, rfl, rfl, rfl⟩ rfl rfl rfl rfl rfl (by kernel_rfl) Tryz.func4 jfAll
    (of_decide_eq_true (by kernel_rfl)) (by unfold Func.isWrapper; first | (rw [if_pos (by decide +kernel)]; kernel_rfl) | (rw [if_neg (by decide +kernel)]; exact ⟨rfl, rfl⟩))
    (fun os started H enc _ F => by rw [OpenClaim.pre_eq_preRow]; exact liftedUpto os started H enc F)
set_option maxRecDepth 100000 in
theorem goalsFocusesUptoCard : Rows.GoalsFocusesUptoCardSaid :=
  Claim7.holds_tied_plain_at .later [] _ _ _ _ saidUpto (fun _ h => by cases h) (by kernel_rfl) (fun _ h => by cases h) goalsFocusesUpto_row_tie rfl ⟨rfl, rfl⟩ (by kernel_rfl) rfl plain goes_row
end Go.Proofs.YtkdfgoimgcegfaaGreatDoor
