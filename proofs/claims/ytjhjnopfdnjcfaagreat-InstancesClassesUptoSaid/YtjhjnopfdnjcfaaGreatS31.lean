/- The program of this seat: its table. -/
import Derived.Test.YtjhjnopfdnjcfaaGreatAmSym2
import Derived.KernelRfl
import Derived.Test.YtjhjnopfdnjcfaaGreatProg
set_option linter.unusedVariables false
set_option linter.unusedSimpArgs false
set_option linter.unusedSectionVars false
set_option linter.all false
namespace Go.Proofs.YtjhjnopfdnjcfaaGreat
open Go Go.Am Go.Proofs
noncomputable def TT : Tab := tabOf Tryz.prog
theorem tok : TabOK TT Tryz.prog := tabOK_tabOf (by kernel_rfl)
theorem TT.func11 : TT.func 11 = some Tryz.f11 := by kernel_rfl
theorem TT.func5 : TT.func 5 = some Tryz.f5 := by kernel_rfl
theorem TT.under9 : TT.under 9 = some .string := by kernel_rfl
theorem TT.under22 : TT.under 22 = some (.slice 9) := by kernel_rfl
end Go.Proofs.YtjhjnopfdnjcfaaGreat
