/- Operators and places of texts: for simp. -/
import Derived.Test.YtkdfgoimgcegfaaGreatDoorAmEnds
set_option linter.unusedSectionVars false
set_option linter.unusedSimpArgs false
set_option linter.unusedVariables false
namespace Go.Am
open Go
variable {T : Tab}
namespace Sym
section
variable (h : H) (t : TypeId) (x y : Operand) (a b : ByteArray)
@[simp] theorem bin_seql : binOf T h .eql t x y (some (.string a)) (some (.string b)) = .val (.bool (a.toList == b.toList)) h := by
  show vresG h (pureRun T.prog (do eqGuard .eql t x y (.string a) (.string b); binOp .eql t (.string a) (.string b))) = _
  have : (do eqGuard .eql t x y (.string a) (.string b); binOp .eql t (.string a) (.string b) : Sem Value) = pure (.bool (a.toList == b.toList)) := by
    simp [eqGuard, binOp, Op.stringOp]
  rw [this]; rfl
@[simp] theorem bin_sneq : binOf T h .neq t x y (some (.string a)) (some (.string b)) = .val (.bool (!(a.toList == b.toList))) h := by
  show vresG h (pureRun T.prog (do eqGuard .neq t x y (.string a) (.string b); binOp .neq t (.string a) (.string b))) = _
  have : (do eqGuard .neq t x y (.string a) (.string b); binOp .neq t (.string a) (.string b) : Sem Value) = pure (.bool (!(a.toList == b.toList))) := by
    simp [eqGuard, binOp, Op.stringOp]
  rw [this]; rfl
end
theorem index_str (h : H) (t : TypeId) (s : ByteArray) (k : IntKind) (i : Nat) (hi : i < s.size) (hu : T.prog.underlying t = some .string) : ∃ n : Int, indexOf T h t (some .string) (some (.string s)) (some (.int k i)) = .val (.int .u8 n) h := by
  refine ⟨(s[i]'hi).toNat, ?_⟩
  show vresG h (pureRun T.prog (Instr.index t (.string s) (.int k i))) = _
  have e : pureRun T.prog (Instr.index t (.string s) (.int k i)) = some (.int .u8 (s[i]'hi).toNat) := by
    have b1 : ∀ {α β : Type} (m : Sem α) (f : α → Sem β), (m >>= f) = Sem.bind m f := fun _ _ => rfl
    have b2 : ∀ {α : Type} (a : α), (pure a : Sem α) = Sem.pure a := fun _ => rfl
    have b3 : ∀ {α : Type} (a : α), pureRun T.prog (Sem.pure a) = some a := fun _ => rfl
    have b4 : ∀ {α : Type} (f : Program → Sem α), pureRun T.prog (Sem.program f) = pureRun T.prog (f T.prog) := fun _ => rfl
    simp [Instr.index, b1, b2, underlying, program, asIntOf, Sem.bind, b3, b4, hu, hi]
  rw [e]; rfl
end Sym
end Go.Am
