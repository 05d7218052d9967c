/- The law euclidlaw35.GoalsStarts: at every input of bulk at most 1048576 the call returns true, and each argument reads afterwards as it read before. Conditions: those of the given statement, no other (the listed tables of the library start as the program's text lays them; the card ties them, to a pruned copy of the project). -/
import Derived.Test.YtkdfgoimgcegfaaGreatDoorL35d
import Derived.Test.YtkdfgoimgcegfaaGreatDoorJ36
set_option linter.unusedSectionVars false
set_option linter.unusedSimpArgs false
set_option linter.unusedVariables false
namespace Go.Proofs.YtkdfgoimgcegfaaGreatDoor
open Go Go.Am Go.Proofs
open Go.ChangeShapes Go.WideShapes Go.ChangeAt Go.RowKit
set_option maxRecDepth 100000 in
theorem saidUpto : Rows.GoalsStartsUptoSaid :=
  OpenClaim.holds_of_cond 3 Tryz.f3 rfl rfl rfl rfl rfl rfl rfl ⟨rfl, rfl, rfl, rfl, rfl⟩ rfl rfl rfl rfl rfl (by kernel_rfl) Tryz.func3 jfAll
    (of_decide_eq_true (by kernel_rfl)) (by unfold Func.isWrapper; first | (rw [if_pos (by decide +kernel)]; kernel_rfl) | (rw [if_neg (by decide +kernel)]; exact ⟨rfl, rfl⟩))
    (fun os started H enc _ F => by rw [OpenClaim.pre_eq_preRow]; exact liftedUpto os started H enc F)
set_option maxRecDepth 100000 in
theorem goalsStartsUptoCard : Rows.GoalsStartsUptoCardSaid :=
  Claim7.holds_tied_plain_at .later [] _ _ _ _ saidUpto (fun _ h => by cases h) (by kernel_rfl) (fun _ h => by cases h) goalsStartsUpto_row_tie rfl ⟨rfl, rfl⟩ (by kernel_rfl) rfl plain goes_row
end Go.Proofs.YtkdfgoimgcegfaaGreatDoor
