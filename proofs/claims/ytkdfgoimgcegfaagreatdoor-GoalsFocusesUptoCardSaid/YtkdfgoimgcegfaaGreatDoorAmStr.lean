/- Operators and places of texts: for simp. -/
import Derived.Test.YtkdfgoimgcegfaaGreatDoorAmSym3
import Derived.Test.YtkdfgoimgcegfaaGreatDoorAmRound
set_option linter.unusedSectionVars false
set_option linter.unusedSimpArgs false
set_option linter.unusedVariables false
namespace Go.Am
open Go
variable {T : Tab}
namespace Sym
section
variable (h : H) (t : TypeId) (x y : Operand) (a b : ByteArray)
@[simp] theorem bin_seql : binOf T h .eql t x y (some (.string a)) (some (.string b)) = .val (.bool (a.toList == b.toList)) h := by
  show vresG h (pureRun T.prog (do eqGuard .eql t x y (.string a) (.string b); binOp .eql t (.string a) (.string b))) = _
  have : (do eqGuard .eql t x y (.string a) (.string b); binOp .eql t (.string a) (.string b) : Sem Value) = pure (.bool (a.toList == b.toList)) := by
    simp [eqGuard, binOp, Op.stringOp]
  rw [this]; rfl
@[simp] theorem bin_sneq : binOf T h .neq t x y (some (.string a)) (some (.string b)) = .val (.bool (!(a.toList == b.toList))) h := by
  show vresG h (pureRun T.prog (do eqGuard .neq t x y (.string a) (.string b); binOp .neq t (.string a) (.string b))) = _
  have : (do eqGuard .neq t x y (.string a) (.string b); binOp .neq t (.string a) (.string b) : Sem Value) = pure (.bool (!(a.toList == b.toList))) := by
    simp [eqGuard, binOp, Op.stringOp]
  rw [this]; rfl
end
theorem index_str (h : H) (t : TypeId) (s : ByteArray) (k : IntKind) (i : Nat) (hi : i < s.size) (hu : T.prog.underlying t = some .string) : ∃ n : Int, indexOf T h t (some .string) (some (.string s)) (some (.int k i)) = .val (.int .u8 n) h := by
  refine ⟨(s[i]'hi).toNat, ?_⟩
  show vresG h (pureRun T.prog (Instr.index t (.string s) (.int k i))) = _
  have e : pureRun T.prog (Instr.index t (.string s) (.int k i)) = some (.int .u8 (s[i]'hi).toNat) := by
    have b1 : ∀ {α β : Type} (m : Sem α) (f : α → Sem β), (m >>= f) = Sem.bind m f := fun _ _ => rfl
    have b2 : ∀ {α : Type} (a : α), (pure a : Sem α) = Sem.pure a := fun _ => rfl
    have b3 : ∀ {α : Type} (a : α), pureRun T.prog (Sem.pure a) = some a := fun _ => rfl
    have b4 : ∀ {α : Type} (f : Program → Sem α), pureRun T.prog (Sem.program f) = pureRun T.prog (f T.prog) := fun _ => rfl
    simp [Instr.index, b1, b2, underlying, program, asIntOf, Sem.bind, b3, b4, hu, hi]
  rw [e]; rfl
end Sym
end Go.Am
/- A call on data: what the world holds, as data, and what the call keeps. -/
namespace Go.Am
open Go
variable {T : Tab} {P : Program}
/-- All rows of a world, as they are. -/
def imM (w : World) : M := ⟨fun _ => none, fun c => match w.heap[c]? with | some (.cells l _ _) => some l.toList | _ => none⟩
theorem imM_eq {w : World} {c : Nat} {l : Array Value} {e : TypeId} {f : Nat × Nat} (h : w.heap[c]? = some (.cells l e f)) : (imM w).im c = some l.toList := by
  show (match w.heap[c]? with | some (.cells l _ _) => some l.toList | _ => none) = _
  rw [h]
theorem imM_at {w : World} {c : Nat} {l : List Value} (h : (imM w).im c = some l) : ∃ e f, w.heap[c]? = some (.cells ⟨l⟩ e f) := by
  have h : (match w.heap[c]? with | some (.cells l _ _) => some l.toList | _ => none) = some l := h
  split at h
  · rename_i a e f hw
    injection h with h
    subst h
    exact ⟨e, f, hw⟩
  · cases h
theorem inv_data (N : Nat) (w : World) : Inv T ⟨w, imM w, fun _ => none, 0, N, fun _ => True, fun _ => True⟩ (imM w) (fun _ => none) H.empty w where
  obj := fun _ _ h => by cases h
  inj := fun _ _ _ _ h => absurd rfl h
  old := fun _ _ => rfl
  size := Nat.le_refl _
  young := fun _ _ h => absurd rfl h
  same := .refl _
  agree := fun _ h => absurd h (Nat.not_lt_zero _)
  dom := fun _ _ h => by cases h
  fresh := fun _ _ _ => ⟨rfl, rfl⟩
  baseLe := Nat.le_refl _
  keepM := .refl _
  outM := fun _ _ => rfl
  startLe := Nat.le_refl _
  keepH := fun _ _ => rfl
  imm := fun c l h => ⟨imM_at h, fun _ _ h => absurd rfl h⟩
  outIm := fun _ _ => rfl
theorem calls_data (tok : TabOK T P) {ev : Task → Ans} (hev : EvS T P ev) {g : FuncId} {args args' : List Value} {v : Value} {h : H} (hv : groundDeep v = true)
    (he : callFn T ev g args H.empty none (T.func g) = .ret v h none) (w : World) (hl : LR (imM w) args args') : Calls P g ⟨args'⟩ w fun e w' => e = .returned v ∧ Kept w w' := by
  intro cs
  cases hT : T.func g with
  | none => rw [hT] at he; cases he
  | some fn =>
    rw [hT] at he
    have he : bodyRun T ev g args H.empty none fn fn.body = .ret v h none := he
    cases hc : fn.body with
    | none => rw [hc] at he; cases he
    | some c =>
      rw [hc] at he
      obtain ⟨_, hx⟩ := body_sound tok hev hT hc h none (by rw [he]; rfl)
      obtain ⟨m', hD', cab', w', cr, fr', k1, k2, k3, k4, k5, k6, k7⟩ := hx ⟨w, imM w, fun _ => none, 0, h.next, fun _ => True, fun _ => True⟩ _ _ (.plain cs) args' none w
        ⟨Nat.le_refl _, fun _ _ => ⟨trivial, trivial⟩, fun _ _ => trivial, fun _ _ => trivial, fun _ _ => trivial⟩ (inv_data _ w) hl .none rfl
      rw [he] at k5
      cases k5 with
      | @ret _ v' _ _ hvr =>
        have := hvr.groundDeep hv
        subst this
        obtain ⟨z1, z2, z3, z4, fn', z5, z6⟩ := k7
        exact ⟨.returned v', w', fr', ⟨rfl, k2.old, k2.size, k2.same⟩, k6, z1, z2, z3, z4, fn', by rw [z1]; exact z5, z6⟩
end Go.Am
