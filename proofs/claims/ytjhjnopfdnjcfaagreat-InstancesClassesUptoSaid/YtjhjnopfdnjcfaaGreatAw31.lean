/- Layer 31: awake, run. -/
import Derived.Test.YtjhjnopfdnjcfaaGreatS31
set_option linter.unusedVariables false
set_option linter.unusedSimpArgs false
set_option linter.unusedSectionVars false
set_option linter.all false
namespace Go.Proofs.YtjhjnopfdnjcfaaGreat
open Go Go.Am Go.Proofs
def isTrueN : Ans → Bool
  | .ret (.bool true) _ none => true
  | _ => false
theorem awake_run : isTrueN (callFn TT (eval TT 399) 7 [] H.empty none (TT.func 7)) = true := by kernel_rfl
end Go.Proofs.YtjhjnopfdnjcfaaGreat
