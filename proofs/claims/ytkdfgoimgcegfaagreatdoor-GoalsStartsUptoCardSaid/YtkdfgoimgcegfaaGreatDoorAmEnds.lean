/- How a run of code ends: what holds of slots and memory, by the way it ends. -/
import Derived.Test.YtkdfgoimgcegfaaGreatDoorAmSym3
set_option linter.unusedSectionVars false
set_option linter.unusedSimpArgs false
set_option linter.unusedVariables false
namespace Go.Am
open Go
variable {T : Tab} {P : Program}
/-- Normally, by return, or by leaving a block. -/
def EndsAs (N R : Tr Value → H → Prop) (X : Nat → Tr Value → H → Prop) : Ans → Prop
  | .code .normal ⟨tm, [], h, none⟩ => N tm h
  | .code .ret ⟨tm, [], h, none⟩ => R tm h
  | .code (.exit i) ⟨tm, [], h, none⟩ => X i tm h
  | _ => False
namespace Sym
@[simp] theorem ends_normal (N R : Tr Value → H → Prop) (X : Nat → Tr Value → H → Prop) (tm : Tr Value) (h : H) : EndsAs N R X (.code .normal ⟨tm, [], h, none⟩) = N tm h := rfl
@[simp] theorem ends_ret (N R : Tr Value → H → Prop) (X : Nat → Tr Value → H → Prop) (tm : Tr Value) (h : H) : EndsAs N R X (.code .ret ⟨tm, [], h, none⟩) = R tm h := rfl
@[simp] theorem ends_exit (N R : Tr Value → H → Prop) (X : Nat → Tr Value → H → Prop) (tm : Tr Value) (h : H) (i : Nat) : EndsAs N R X (.code (.exit i) ⟨tm, [], h, none⟩) = X i tm h := rfl
end Sym
theorem EndsAs.cases {N R : Tr Value → H → Prop} {X : Nat → Tr Value → H → Prop} {a : Ans} (h : EndsAs N R X a) :
    (∃ tm m, a = .code .normal ⟨tm, [], m, none⟩ ∧ N tm m) ∨ (∃ tm m, a = .code .ret ⟨tm, [], m, none⟩ ∧ R tm m) ∨ ∃ i tm m, a = .code (.exit i) ⟨tm, [], m, none⟩ ∧ X i tm m := by
  unfold EndsAs at h
  split at h
  · exact .inl ⟨_, _, rfl, h⟩
  · exact .inr (.inl ⟨_, _, rfl, h⟩)
  · exact .inr (.inr ⟨_, _, _, rfl, h⟩)
  · cases h
theorem EndsAs.mono {N R N' R' : Tr Value → H → Prop} {X X' : Nat → Tr Value → H → Prop} {a : Ans} (h : EndsAs N R X a) (hN : ∀ tm m, N tm m → N' tm m) (hR : ∀ tm m, R tm m → R' tm m) (hX : ∀ i tm m, X i tm m → X' i tm m) : EndsAs N' R' X' a := by
  rcases h.cases with ⟨tm, m, rfl, q⟩ | ⟨tm, m, rfl, q⟩ | ⟨i, tm, m, rfl, q⟩
  · exact hN _ _ q
  · exact hR _ _ q
  · exact hX _ _ _ q
/-- A loop: each round but the last comes nearer to the end. -/
theorem loop_ends {C : Con} {fr : Fr} {B : Code} (k : Nat) (I : Nat → Tr Value → H → Prop) (R : Tr Value → H → Prop) (X : Nat → Tr Value → H → Prop)
    (hstep : ∀ j tm h m, I j tm h → k ≤ m → EndsAs (fun tm' h' => ∃ j', j' < j ∧ I j' tm' h') R X (runCode T (evK T C m) fr B ⟨tm, [], h, none⟩)) :
    ∀ m j tm h, I j tm h → j + k ≤ m → EndsAs (fun _ _ => False) R X (runCode T (evK T C m) fr (.loop B) ⟨tm, [], h, none⟩) := by
  intro m
  induction m with
  | zero =>
    intro j tm h hI hm
    rcases (hstep j tm h 0 hI (by omega)).cases with ⟨tm', h', e, j', h1, _⟩ | ⟨tm', h', e, q⟩ | ⟨i, tm', h', e, q⟩
    · omega
    · rw [Sym.run_loop, e]; exact q
    · rw [Sym.run_loop, e]; exact q
  | succ m ih =>
    intro j tm h hI hm
    rcases (hstep j tm h (m + 1) hI (by omega)).cases with ⟨tm', h', e, j', h1, h2⟩ | ⟨tm', h', e, q⟩ | ⟨i, tm', h', e, q⟩
    · rw [Sym.run_loop, e, Sym.loopK_normal, evK_loop]
      exact ih j' tm' h' h2 (by omega)
    · rw [Sym.run_loop, e]; exact q
    · rw [Sym.run_loop, e]; exact q
/-- At a loop that the run has come to. -/
theorem at_loop {C : Con} {fr : Fr} {B : Code} {m : Nat} {tm : Tr Value} {h : H} {X : Ans} (hX : runCode T (evK T C m) fr (.loop B) ⟨tm, [], h, none⟩ = X) (k : Nat) (I : Nat → Tr Value → H → Prop) (R : Tr Value → H → Prop) (E : Nat → Tr Value → H → Prop) (j : Nat) (h0 : I j tm h) (hm : j + k ≤ m)
    (hstep : ∀ j tm h m, I j tm h → k ≤ m → EndsAs (fun tm' h' => ∃ j', j' < j ∧ I j' tm' h') R E (runCode T (evK T C m) fr B ⟨tm, [], h, none⟩)) :
    (∃ tm m, X = .code .ret ⟨tm, [], m, none⟩ ∧ R tm m) ∨ ∃ i tm m, X = .code (.exit i) ⟨tm, [], m, none⟩ ∧ E i tm m := by
  rcases (loop_ends k I R E hstep m j tm h h0 hm).cases with ⟨_, _, _, q⟩ | q | q
  · cases q
  · rw [← hX]; exact .inl q
  · rw [← hX]; exact .inr q
theorem ends_seq {N N' R : Tr Value → H → Prop} {X : Nat → Tr Value → H → Prop} {k : S → Ans} {a : Ans} (h1 : EndsAs N' R X a) (h2 : ∀ tm h, N' tm h → EndsAs N R X (k ⟨tm, [], h, none⟩)) : EndsAs N R X (seqK k a) := by
  rcases h1.cases with ⟨tm, m, rfl, q⟩ | ⟨tm, m, rfl, q⟩ | ⟨i, tm, m, rfl, q⟩
  · exact h2 _ _ q
  · exact q
  · exact q
theorem ends_block {N R : Tr Value → H → Prop} {X : Nat → Tr Value → H → Prop} {id : Nat} {a : Ans} (h : EndsAs N R (fun i tm m => (i = id → N tm m) ∧ (i ≠ id → X i tm m)) a) : EndsAs N R X (blockK id a) := by
  rcases h.cases with ⟨tm, m, rfl, q⟩ | ⟨tm, m, rfl, q⟩ | ⟨i, tm, m, rfl, q⟩
  · exact q
  · exact q
  · rw [Sym.blockK_exit]
    by_cases e : i = id
    · rw [nbeq_eq e]; exact q.1 e
    · rw [nbeq_ne e]; exact q.2 e
/-- A loop that is left by its block, or by return. -/
theorem ends_loop {C : Con} {fr : Fr} {B : Code} {m id : Nat} {tm : Tr Value} {h : H} {N R : Tr Value → H → Prop} {X : Nat → Tr Value → H → Prop} (k : Nat) (I : Nat → Tr Value → H → Prop) (j : Nat) (h0 : I j tm h) (hm : j + k ≤ m)
    (hstep : ∀ j tm h m, I j tm h → k ≤ m → EndsAs (fun tm' h' => ∃ j', j' < j ∧ I j' tm' h') R (fun i tm m => i = id ∧ N tm m) (runCode T (evK T C m) fr B ⟨tm, [], h, none⟩)) :
    EndsAs N R X (runCode T (evK T C m) fr (.block id (.loop B)) ⟨tm, [], h, none⟩) := by
  rw [Sym.run_block]
  exact ends_block ((loop_ends k I R (fun i tm m => i = id ∧ N tm m) hstep m j tm h h0 hm).mono (fun _ _ q => q.elim) (fun _ _ q => q) (fun i tm m q => ⟨fun _ => q.2, fun e => absurd q.1 e⟩))
theorem ends_seqC {ev : Task → Ans} {fr : Fr} {x y : Code} {s : S} {N N' R : Tr Value → H → Prop} {X : Nat → Tr Value → H → Prop} (h1 : EndsAs N' R X (runCode T ev fr x s)) (h2 : ∀ tm h, N' tm h → EndsAs N R X (runCode T ev fr y ⟨tm, [], h, none⟩)) :
    EndsAs N R X (runCode T ev fr (.seq x y) s) := by
  rw [Sym.run_seq]; exact ends_seq h1 h2
theorem seqK_assoc (k1 k2 : S → Ans) (a : Ans) : seqK k2 (seqK k1 a) = seqK (fun s => seqK k2 (k1 s)) a := by
  cases a with
  | code e s => cases e <;> rfl
  | _ => rfl
theorem ends_seq3 {ev : Task → Ans} {fr : Fr} {x y z : Code} {s : S} {N N' R : Tr Value → H → Prop} {X : Nat → Tr Value → H → Prop} (h1 : EndsAs N' R X (runCode T ev fr (.seq x y) s)) (h2 : ∀ tm h, N' tm h → EndsAs N R X (runCode T ev fr z ⟨tm, [], h, none⟩)) :
    EndsAs N R X (runCode T ev fr (.seq x (.seq y z)) s) := by
  have : runCode T ev fr (.seq x (.seq y z)) s = seqK (runCode T ev fr z) (runCode T ev fr (.seq x y) s) := by
    rw [Sym.run_seq, Sym.run_seq, seqK_assoc]; rfl
  rw [this]; exact ends_seq h1 h2
theorem fnE_ends (tok : TabOK T P) {β : Type} {g : FuncId} {fn : Func} {c : Code} {args : List Value} {r : β → Value} (C : Con) (hC : ConS T P C) (hp : PureL args) (hr : ∀ n, PureV (r n)) (n : Nat) (hT : T.func g = some fn) (hb : fn.body = some c)
    {t : Nat} (hrs : fn.results.toList = [.tmp t]) (hcode : EndsAs (fun tm _ => ∃ v, tm.get t = some (r v)) (fun tm _ => ∃ v, tm.get t = some (r v)) (fun _ _ _ => False) (runCode T (evK T C (n + 1)) ⟨g, none⟩ c ⟨initT args 0 .nil, [], H.empty, none⟩)) :
    ∃ v, ∀ h, CallS T P (.func (.func g) #[] #[]) args h none (.ret (r v) h none) := by
  refine fnE_of tok C hC hp hr n hT hb hrs ?_
  rcases hcode.cases with ⟨tm, m, e, v, q⟩ | ⟨tm, m, e, v, q⟩ | ⟨i, tm, m, e, q⟩
  · rw [e]; exact ⟨v, m, by simp [q]⟩
  · rw [e]; exact ⟨v, m, by simp [q]⟩
  · cases q
/-- A function of whose answer something is said. -/
theorem fnP {α β : Type} [Inhabited β] {g : FuncId} {pre : α → Prop} {enc : α → List Value} (r : β → Value) (Q : α → β → Prop) (hE : ∀ x, pre x → ∃ n, Q x n ∧ ∀ h, CallS T P (.func (.func g) #[] #[]) (enc x) h none (.ret (r n) h none)) :
    ∃ f : α → β, FnC T P g pre enc (fun x => r (f x)) ∧ ∀ x, pre x → Q x (f x) := by
  classical
  refine ⟨fun x => if hx : pre x then Classical.choose (hE x hx) else default, fun x hx h => ?_, fun x hx => ?_⟩
  · have := (Classical.choose_spec (hE x hx)).2 h
    simpa [dif_pos hx] using this
  · have := (Classical.choose_spec (hE x hx)).1
    simpa [dif_pos hx] using this
theorem fnP_ends (tok : TabOK T P) {β : Type} {g : FuncId} {fn : Func} {c : Code} {args : List Value} {r : β → Value} {Q : β → Prop} (C : Con) (hC : ConS T P C) (hp : PureL args) (hr : ∀ n, PureV (r n)) (n : Nat) (hT : T.func g = some fn) (hb : fn.body = some c)
    {t : Nat} (hrs : fn.results.toList = [.tmp t]) (hcode : EndsAs (fun tm _ => ∃ v, tm.get t = some (r v) ∧ Q v) (fun tm _ => ∃ v, tm.get t = some (r v) ∧ Q v) (fun _ _ _ => False) (runCode T (evK T C (n + 1)) ⟨g, none⟩ c ⟨initT args 0 .nil, [], H.empty, none⟩)) :
    ∃ v, Q v ∧ ∀ h, CallS T P (.func (.func g) #[] #[]) args h none (.ret (r v) h none) := by
  rcases hcode.cases with ⟨tm, m, e, v, q, hq⟩ | ⟨tm, m, e, v, q, hq⟩ | ⟨i, tm, m, e, q⟩
  · exact ⟨v, hq, fun h => fnC_of tok C hC hp (n + 1) (fn_run hT hb hrs (vs := [r v]) (h2 := m) (by rw [e]; simp [q])) (.pure (hr v)) h⟩
  · exact ⟨v, hq, fun h => fnC_of tok C hC hp (n + 1) (fn_run hT hb hrs (vs := [r v]) (h2 := m) (by rw [e]; simp [q])) (.pure (hr v)) h⟩
  · cases q
end Go.Am
