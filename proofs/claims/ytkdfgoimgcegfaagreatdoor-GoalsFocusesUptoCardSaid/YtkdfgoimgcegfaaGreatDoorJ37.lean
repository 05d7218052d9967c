/- Layer 35: the row's closed facts, one by one. -/
import Derived.Test.YtkdfgoimgcegfaaGreatDoorL36b
set_option linter.unusedSectionVars false
set_option linter.unusedSimpArgs false
set_option linter.unusedVariables false
namespace Go.Proofs.YtkdfgoimgcegfaaGreatDoor
open Go Go.Am Go.Proofs
abbrev rw0 : OpenClaim := Rows.goalsFocusesUptoRow
abbrev sp0 : ChangeSpec := (Rows.OpenSpec.upto Rows.goalsFocusesSpec).bare
theorem and2 {a b : Bool} (ha : a = true) (hb : b = true) : (a && b) = true := by rw [ha, hb]; rfl
set_option maxRecDepth 100000 in
theorem jf1 : (rw0.wf (OpenSpec.ofChange sp0)) = true := by kernel_rfl
set_option maxRecDepth 100000 in
theorem jf2 : (laidOutB Tryz.prog) = true := by kernel_rfl
set_option maxRecDepth 100000 in
theorem jf3 : (mapsRowed Tryz.prog) = true := by kernel_rfl
set_option maxRecDepth 100000 in
theorem jf4 : (Tryz.f4.params.all (Tryz.prog.readableRec ·)) = true := by kernel_rfl
set_option maxRecDepth 100000 in
theorem jf5 : (namedTie Tryz.prog rw0.named sp0.vars) = true := by kernel_rfl
set_option maxRecDepth 100000 in
theorem jf6 : ((rw0.stops == [])) = true := by kernel_rfl
set_option maxRecDepth 100000 in
theorem jf7 : ((Tryz.prog.stops == [])) = true := by kernel_rfl
set_option maxRecDepth 100000 in
theorem jf8 : ((rw0.knobs == [])) = true := by kernel_rfl
set_option maxRecDepth 100000 in
theorem jf9 : ((Tryz.prog.stopKnobs == [])) = true := by kernel_rfl
set_option maxRecDepth 100000 in
theorem jf10 : ((rw0.inPlace == Tryz.prog.inPlace 4)) = true := by kernel_rfl
set_option maxRecDepth 100000 in
theorem jf11 : ((rw0.unfollowed == Tryz.prog.unfollowed 4)) = true := by kernel_rfl
set_option maxRecDepth 100000 in
theorem jf12 : ((rw0.recurses == Tryz.prog.recurses 4)) = true := by kernel_rfl
set_option maxRecDepth 100000 in
theorem jf13 : ((rw0.named == Tryz.prog.varsNamed 4)) = true := by kernel_rfl
set_option maxRecDepth 100000 in
theorem jf14 : ((rw0.maps == (Tryz.f4.params.toList ++ sp0.plain.varTypes Tryz.prog).any (Tryz.prog.mapsRec ·))) = true := by kernel_rfl
set_option maxRecDepth 100000 in
theorem jf15 : ((rw0.ifaces == (Tryz.f4.params.toList ++ sp0.plain.varTypes Tryz.prog).any (Tryz.prog.ifacesRec ·))) = true := by kernel_rfl
set_option maxRecDepth 100000 in
theorem jf16 : ((rw0.mapsOut == Tryz.prog.mapsAmong Tryz.f4.resultTypes.toList)) = true := by kernel_rfl
set_option maxRecDepth 100000 in
theorem jf17 : ((rw0.loops == (Tryz.f4.params.toList ++ sp0.plain.varTypes Tryz.prog).any (Tryz.prog.loopsFrom ·))) = true := by kernel_rfl
set_option maxRecDepth 100000 in
theorem jf18 : ((rw0.wideKeys == (Tryz.f4.params.toList ++ sp0.plain.varTypes Tryz.prog ++ Tryz.f4.resultTypes.toList).any (Tryz.prog.wideKeysFrom ·))) = true := by kernel_rfl
set_option maxRecDepth 100000 in
theorem jf19 : (sp0.vars.all (Tryz.prog.varReadable ·)) = true := by kernel_rfl
set_option maxRecDepth 100000 in
theorem jf20 : (Tryz.f4.resultTypes.all (fun t => Tryz.prog.readableRec t && decide (t < Tryz.prog.types.size))) = true := by kernel_rfl
set_option maxRecDepth 100000 in
theorem jf21 : ((rw0.ifacesOut == Tryz.f4.resultTypes.toList.any (Tryz.prog.ifacesRec ·))) = true := by kernel_rfl
set_option maxRecDepth 100000 in
theorem jf22 : ((rw0.loopsOut == Tryz.f4.resultTypes.toList.any (Tryz.prog.loopsFrom ·))) = true := by kernel_rfl
set_option maxRecDepth 100000 in
theorem jf23 : ((rw0.plainKeys == Tryz.prog.plainKeys)) = true := by kernel_rfl
set_option maxRecDepth 100000 in
theorem jf24 : (rw0.shortTexts.isNone) = true := by kernel_rfl
set_option maxRecDepth 100000 in
theorem jf25 : (Tryz.prog.stopsHeard) = true := by kernel_rfl
set_option maxRecDepth 100000 in
theorem jf26 : (Tryz.prog.mayEnter) = true := by kernel_rfl
set_option maxRecDepth 100000 in
theorem jf27 : ((rw0.lifted == Tryz.prog.liftsFinal)) = true := by kernel_rfl
set_option maxRecDepth 100000 in
theorem jf28 : ((Tryz.prog.make == some rw0.make)) = true := by kernel_rfl
set_option maxRecDepth 100000 in
theorem jf29 : ((rw0.kinds == (if rw0.domain.isEmpty then [] else Tryz.f4.params.toList.map fun t => match Tryz.prog.underlying t with | some (.int k) => some k | _ => none))) = true := by kernel_rfl
set_option maxRecDepth 100000 in
theorem jf30 : ((rw0.pinned == rw0.pinnedBy)) = true := by kernel_rfl
set_option maxRecDepth 100000 in
theorem jf31 : ((rw0.veiled == (Tryz.f4.params.toList ++ sp0.plain.varTypes Tryz.prog ++ Tryz.f4.resultTypes.toList).any (Tryz.prog.veiledRec ·))) = true := by kernel_rfl
set_option maxRecDepth 100000 in
theorem jf32 : (rw0.veiledFits Tryz.prog Tryz.f4.params.toList (Tryz.f4.params.toList ++ sp0.plain.varTypes Tryz.prog ++ Tryz.f4.resultTypes.toList)) = true := by kernel_rfl
end Go.Proofs.YtkdfgoimgcegfaaGreatDoor
