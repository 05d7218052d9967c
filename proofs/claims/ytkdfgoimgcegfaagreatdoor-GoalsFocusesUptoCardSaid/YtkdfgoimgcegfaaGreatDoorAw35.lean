/- Layer 35: the law's closed self-test, run. -/
import Derived.Test.YtkdfgoimgcegfaaGreatDoorS35
import Derived.Test.YtkdfgoimgcegfaaGreatDoorAmRound
set_option linter.unusedSectionVars false
set_option linter.unusedSimpArgs false
set_option linter.unusedVariables false
namespace Go.Proofs.YtkdfgoimgcegfaaGreatDoor
open Go Go.Am Go.Proofs
def isTrueN : Ans → Bool
  | .ret (.bool true) _ none => true
  | _ => false
theorem awake_run : isTrueN (callFn TT (eval TT 399) 8 [] H.empty none (TT.func 8)) = true := by kernel_rfl
end Go.Proofs.YtkdfgoimgcegfaaGreatDoor
