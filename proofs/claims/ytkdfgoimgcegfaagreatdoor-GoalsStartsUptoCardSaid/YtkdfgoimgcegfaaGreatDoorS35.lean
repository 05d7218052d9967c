/- The program of this seat: its table. -/
import Derived.Test.YtkdfgoimgcegfaaGreatDoorAmSym2
import Derived.KernelRfl
import Derived.Test.YtkdfgoimgcegfaaGreatDoorProg
set_option linter.unusedSectionVars false
set_option linter.unusedSimpArgs false
set_option linter.unusedVariables false
namespace Go.Proofs.YtkdfgoimgcegfaaGreatDoor
open Go Go.Am Go.Proofs
noncomputable def TT : Tab := tabOf Tryz.prog
theorem tok : TabOK TT Tryz.prog := tabOK_tabOf (by kernel_rfl)
end Go.Proofs.YtkdfgoimgcegfaaGreatDoor
