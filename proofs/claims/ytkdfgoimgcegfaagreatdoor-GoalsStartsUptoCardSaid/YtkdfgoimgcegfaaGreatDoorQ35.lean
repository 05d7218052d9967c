/- Variables of levels, compared as structs. -/
import Derived.Test.YtkdfgoimgcegfaaGreatDoorE35a
set_option linter.unusedSectionVars false
set_option linter.unusedSimpArgs false
set_option linter.unusedVariables false
namespace Go.Am
open Go Go.Am.Eu
theorem pureRun_bind {p : Program} {α β : Type} (s : Sem α) (f : α → Sem β) : pureRun p (Sem.bind s f) = (pureRun p s).bind fun a => pureRun p (f a) := by
  induction s with
  | pure a => rfl
  | program k ih => exact ih p
  | _ => rfl
theorem list2 {α : Type} {l : List α} (h : l.length = 2) : ∃ a b, l = [a, b] := by
  match l, h with
  | [a, b], _ => exact ⟨a, b, rfl⟩
section
variable {P : Program}
theorem b1 {α β : Type} (m : Sem α) (f : α → Sem β) : (m >>= f) = Sem.bind m f := rfl
theorem b2 {α : Type} (a : α) : (pure a : Sem α) = Sem.pure a := rfl
theorem b3 {α : Type} (a : α) : pureRun P (Sem.pure a) = some a := rfl
theorem b4 {α : Type} (f : Program → Sem α) : pureRun P (Sem.program f) = pureRun P (f P) := rfl
theorem part_pure {t : TypeId} (ha : pureRun P (Go.isAgg t) = some false) (v : Value) (l : List Value) (i : Nat) (hi : l[i]? = some v) : pureRun P (part t ⟨l⟩ i) = some v := by
  have hi' : (⟨l⟩ : Array Value)[i]? = some v := by simpa using hi
  simp [part, b1, b2, b3, pureRun_bind, ha, hi']
theorem eq_int {t : TypeId} (h3 : P.underlying t = some (.int .i64)) (n : Nat) (a : Int) : pureRun P (Op.equalIn (n + 1) t (i64 a) (i64 a)) = some true := by
  simp [Op.equalIn, b1, b2, b3, b4, pureRun_bind, underlying, program, h3]
theorem eq_lvar {t : TypeId} {fs : Array Field} (ht : P.underlying t = some (.struct fs)) (hs : P.stoodInHeld t = false) (h3 : P.underlying 3 = some (.int .i64)) (ha : pureRun P (Go.isAgg 3) = some false)
    (hl : fs.toList.map (fun f => (f.name == "_", f.type, f.offset)) = [(false, 3, 0), (false, 3, 1)]) (x : LVar) (n : Nat) : pureRun P (Op.equalIn (n + 1 + 1) t (lvarV x) (lvarV x)) = some true := by
  obtain ⟨f0, f1, hfs⟩ : ∃ f0 f1, fs.toList = [f0, f1] := list2 (by have := congrArg List.length hl; simpa using this)
  rw [hfs] at hl
  simp at hl
  obtain ⟨⟨n0, ty0, o0⟩, n1, ty1, o1⟩ := hl
  have e0 := part_pure ha (i64 x.index) [i64 x.index, i64 x.plus] 0 rfl
  have e1 := part_pure ha (i64 x.plus) [i64 x.index, i64 x.plus] 1 rfl
  have q0 := eq_int h3 n x.index
  have q1 := eq_int h3 n x.plus
  unfold lvarV
  unfold Op.equalIn
  simp [b1, b2, b3, b4, pureRun_bind, underlying, program, ht, hs]
  rw [← Array.forIn_toList, hfs]
  simp [b1, b2, b3, b4, pureRun_bind, n0, n1, ty0, ty1, o0, o1, e0, e1, q0, q1]
theorem neq_lvar {t : TypeId} {fs : Array Field} (ht : P.underlying t = some (.struct fs)) (hs : P.stoodInHeld t = false) (h3 : P.underlying 3 = some (.int .i64)) (ha : pureRun P (Go.isAgg 3) = some false)
    (hl : fs.toList.map (fun f => (f.name == "_", f.type, f.offset)) = [(false, 3, 0), (false, 3, 1)]) (hg : P.eqGuardType P.depth t = false) (a : LVar) (x y : Operand) :
    pureRun P (do eqGuard .neq t x y (lvarV a) (lvarV a); binOp .neq t (lvarV a) (lvarV a)) = some (.bool false) := by
  have hq : pureRun P (Op.equal t (lvarV a) (lvarV a)) = some true := eq_lvar ht hs h3 ha hl a 9998
  unfold lvarV at hq ⊢
  simp [eqGuard, binOp, b1, b2, b3, b4, pureRun_bind, program, hg, hq]
end
end Go.Am
namespace Go.Proofs.YtkdfgoimgcegfaaGreatDoor
open Go Go.Am Go.Proofs Go.Am.Sym Go.Am.Eu
set_option maxRecDepth 10000
noncomputable def fs191 : Array Field := match Tryz.prog.underlying 191 with | some (.struct fs) => fs | _ => #[]
theorem neq191e (x y : Operand) (a : LVar) : pureRun Tryz.prog (do eqGuard .neq 191 x y (lvarV a) (lvarV a); binOp .neq 191 (lvarV a) (lvarV a)) = some (.bool false) :=
  neq_lvar (fs := fs191) (by kernel_rfl) (by kernel_rfl) (by kernel_rfl) (by kernel_rfl) (by kernel_rfl) (by kernel_rfl) a x y
theorem neq191s (h : H) (x y : Operand) (a : LVar) : binOf TT h .neq 191 x y (some (lvarV a)) (some (lvarV a)) = vresG h (pureRun Tryz.prog (do eqGuard .neq 191 x y (lvarV a) (lvarV a); binOp .neq 191 (lvarV a) (lvarV a))) := by kernel_rfl
@[simp] theorem neq191 (h : H) (x y : Operand) (a : LVar) : binOf TT h .neq 191 x y (some (lvarV a)) (some (lvarV a)) = .val (.bool false) h := by
  rw [neq191s, neq191e]; rfl
end Go.Proofs.YtkdfgoimgcegfaaGreatDoor
