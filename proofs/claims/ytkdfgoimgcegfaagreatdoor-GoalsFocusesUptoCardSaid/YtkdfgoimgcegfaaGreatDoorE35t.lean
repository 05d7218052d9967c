/- Layer 35: equality of proof states, on equal data. -/
import Derived.Test.YtkdfgoimgcegfaaGreatDoorE35s
set_option linter.unusedSectionVars false
set_option linter.unusedSimpArgs false
set_option linter.unusedVariables false
namespace Go.Am.Eu
open Go Go.Am
def Meta.ok (x : Meta) (N : Nat) : Prop := wt x.type < N ∧ wt x.value < N
def ctxOk (l : List Term) (N : Nat) : Prop := l.length < N ∧ ∀ x ∈ l, wt x < N
def Eqn.ok (x : Eqn) (N : Nat) : Prop := ctxOk x.ctx N ∧ wt x.left < N ∧ wt x.right < N
def Bound.ok (x : Bound) (N : Nat) : Prop := x.low.vars.length < N ∧ x.high.vars.length < N
def Store.ok (x : Store) (N : Nat) : Prop := (x.metas.length < N ∧ ∀ y ∈ x.metas, y.ok N) ∧ (x.eqns.length < N ∧ ∀ y ∈ x.eqns, y.ok N) ∧ (x.bounds.length < N ∧ ∀ y ∈ x.bounds, y.ok N)
def Goal.ok (x : Goal) (N : Nat) : Prop := x.names.length < N ∧ ctxOk x.ctx N ∧ wt x.target < N
def Proof.ok (x : Proof) (N : Nat) : Prop := x.levels.length < N ∧ x.store.ok N ∧ (x.goals.length < N ∧ ∀ y ∈ x.goals, y.ok N) ∧ wt x.type < N ∧ wt x.root < N
end Go.Am.Eu
namespace Go.Proofs.YtkdfgoimgcegfaaGreatDoor
open Go Go.Am Go.Proofs Go.Am.Sym Go.Am.Eu
set_option maxRecDepth 10000
theorem TT.f66 : TT.func 66 = some Tryz.f66 := by kernel_rfl
theorem TT.f67 : TT.func 67 = some Tryz.f67 := by kernel_rfl
theorem TT.f11 : TT.func 11 = some Tryz.f11 := by kernel_rfl
theorem TT.f26 : TT.func 26 = some Tryz.f26 := by kernel_rfl
theorem same66 : SameFn 66 (fun x : Meta => x.ok big) metaV := by
  rintro x ⟨h1, h2⟩
  obtain ⟨C, hC, H0⟩ : ∃ C, ConS TT Tryz.prog C ∧ Has C 20 (fun x : Term => wt x < big) (fun x => [tv x, tv x]) (fun _ => .bool true) := ⟨_, addC_sound noC_sound same20, Has.same⟩
  have e1 := fun n m => H0.ev (T := TT) n (x := x.type) h1 m
  have e2 := fun n m => H0.ev (T := TT) n (x := x.value) h2 m
  refine fnX_ends (v := .bool true) tok C hC (.cons (metaV_pure x) (.cons (metaV_pure x) .nil)) (.ground rfl) 1 TT.f66 rfl rfl ?_
  simp [Tryz.f66, e1, e2]
theorem same67 : SameFn 67 (fun x : Eqn => x.ok big) eqnV := by
  rintro x ⟨h0, h1, h2⟩
  obtain ⟨C, hC, H0, H1⟩ : ∃ C, ConS TT Tryz.prog C ∧ Has C 20 (fun x : Term => wt x < big) (fun x => [tv x, tv x]) (fun _ => .bool true) ∧ Has C 69 (fun l : List Term => l.length < big ∧ ∀ x ∈ l, wt x < big) (fun x => [termsV x, termsV x]) (fun _ => .bool true) := ⟨_, addC_sound (addC_sound noC_sound same20) same69, .skip (by decide) Has.same, Has.same⟩
  have e1 := fun n m => H0.ev (T := TT) n (x := x.left) h1 m
  have e2 := fun n m => H0.ev (T := TT) n (x := x.right) h2 m
  have e0 := fun n m => H1.ev (T := TT) n (x := x.ctx) h0 m
  refine fnX_ends (v := .bool true) tok C hC (.cons (eqnV_pure x) (.cons (eqnV_pure x) .nil)) (.ground rfl) 1 TT.f67 rfl rfl ?_
  simp [Tryz.f67, e0, e1, e2]

theorem TT.f27 : TT.func 27 = some Tryz.f27 := by kernel_rfl
noncomputable def f27B : Code := piece Tryz.f27 [true,true,false,true,false,false]
theorem f27_split : Tryz.f27.body = some (.seq (piece Tryz.f27 [false]) (.seq (piece Tryz.f27 [true,false]) (.seq (.seq (piece Tryz.f27 [true,true,false,false]) (.block 0 (.loop f27B))) (piece Tryz.f27 [true,true,true])))) := rfl
section
variable {ev : Task → Ans} {l : List Goal} {i : Nat} {tm : Tr Value} {h : H} (hb : h = H.empty) (t0 : tm.get 0 = some (goalsV l)) (t1 : tm.get 1 = some (goalsV l)) (t5 : tm.get 5 = some (i64 i))
include hb t0 t1 t5
theorem f27_iter (h25 : ∀ x ∈ l, ∀ h, ev (call0 25 [strsV x.names, strsV x.names] h) = .ret (.bool true) h none) (h69 : ∀ x ∈ l, ∀ h, ev (call0 69 [termsV x.ctx, termsV x.ctx] h) = .ret (.bool true) h none) (h20 : ∀ x ∈ l, ∀ h, ev (call0 20 [tv x.target, tv x.target] h) = .ret (.bool true) h none) (hi : i < l.length) (hw1 : i + 1 ≤ big) :
    EndsAs (fun tm' h' => h' = H.empty ∧ tm'.get 0 = some (goalsV l) ∧ tm'.get 1 = some (goalsV l) ∧ tm'.get 5 = some (i64 (i + 1 : Nat))) (fun _ _ => False) (fun _ _ _ => False) (runCode TT ev ⟨27, none⟩ f27B ⟨tm, [], h, none⟩) := by
  subst hb
  have e2 := wrapN hw1
  simp at e2
  have gh25 := h25 l[i] (List.getElem_mem hi)
  have gh69 := h69 l[i] (List.getElem_mem hi)
  have gh20 := h20 l[i] (List.getElem_mem hi)
  simp [f27B, piece, sel, sub, Tryz.f27, t0, t1, t5, hi, e2, gh25, gh69, gh20, condK_if]
theorem f27_end (hi : l.length ≤ i) : EndsAs (fun _ _ => False) (fun _ _ => False) (fun j _ _ => j = 0) (runCode TT ev ⟨27, none⟩ f27B ⟨tm, [], h, none⟩) := by
  subst hb
  have hi' : ¬ i < l.length := by omega
  simp [f27B, piece, sel, sub, Tryz.f27, t0, t1, t5, hi']
end
theorem same27 : SameFn 27 (fun l : List Goal => l.length < big ∧ ∀ x ∈ l, x.ok big) goalsV := by
  rintro l ⟨hl, hx⟩
  have hl : l.length < big := hl
  obtain ⟨C, hC, H0, H1, H2⟩ : ∃ C, ConS TT Tryz.prog C ∧ Has C 20 (fun x : Term => wt x < big) (fun x => [tv x, tv x]) (fun _ => .bool true) ∧ Has C 69 (fun l : List Term => l.length < big ∧ ∀ x ∈ l, wt x < big) (fun x => [termsV x, termsV x]) (fun _ => .bool true) ∧ Has C 25 (fun l : List ByteArray => l.length < big) (fun x => [strsV x, strsV x]) (fun _ => .bool true) :=
    ⟨_, addC_sound (addC_sound (addC_sound noC_sound same20) same69) same25, .skip (by decide) (.skip (by decide) Has.same), .skip (by decide) Has.same, Has.same⟩
  have eh20 := fun n (x : Goal) (h1 : x ∈ l) m => H0.ev (T := TT) n (x := x.target) (hx x h1).2.2 m
  have eh69 := fun n (x : Goal) (h1 : x ∈ l) m => H1.ev (T := TT) n (x := x.ctx) (hx x h1).2.1 m
  have eh25 := fun n (x : Goal) (h1 : x ∈ l) m => H2.ev (T := TT) n (x := x.names) (hx x h1).1 m
  refine fnX_ends (v := .bool true) tok C hC (.cons (goalsV_pure l) (.cons (goalsV_pure l) .nil)) (.ground rfl) (l.length + 1) TT.f27 f27_split rfl ?_
  have p0 : EndsAs (fun tm h => h = H.empty ∧ tm.get 0 = some (goalsV l) ∧ tm.get 1 = some (goalsV l)) (fun _ _ => False) (fun _ _ _ => False) (runCode TT (evK TT C (l.length + 1 + 1)) ⟨27, none⟩ (piece Tryz.f27 [false]) ⟨initT [goalsV l, goalsV l] 0 .nil, [], H.empty, none⟩) := by
    simp [piece, sel, sub, Tryz.f27]
  have p1 : ∀ tm h, (h = H.empty ∧ tm.get 0 = some (goalsV l) ∧ tm.get 1 = some (goalsV l)) → EndsAs (fun tm h => h = H.empty ∧ tm.get 0 = some (goalsV l) ∧ tm.get 1 = some (goalsV l)) (fun _ _ => False) (fun _ _ _ => False) (runCode TT (evK TT C (l.length + 1 + 1)) ⟨27, none⟩ (piece Tryz.f27 [true,false]) ⟨tm, [], h, none⟩) := by
    rintro tm h ⟨rfl, t0, t1⟩
    simp [piece, sel, sub, Tryz.f27, t0, t1]
  have p2 : ∀ tm h, (h = H.empty ∧ tm.get 0 = some (goalsV l) ∧ tm.get 1 = some (goalsV l)) → EndsAs (fun tm h => h = H.empty ∧ tm.get 0 = some (goalsV l) ∧ tm.get 1 = some (goalsV l) ∧ tm.get 5 = some (i64 (0 : Nat))) (fun _ _ => False) (fun _ _ _ => False) (runCode TT (evK TT C (l.length + 1 + 1)) ⟨27, none⟩ (piece Tryz.f27 [true,true,false,false]) ⟨tm, [], h, none⟩) := by
    rintro tm h ⟨rfl, t0, t1⟩
    simp [piece, sel, sub, Tryz.f27, t0, t1]
  refine ends_seqC (p0.mono (fun _ _ q => q) (fun _ _ q => q.elim) (fun _ _ _ q => q)) fun tm h q => ends_seqC ((p1 tm h q).mono (fun _ _ q => q) (fun _ _ q => q.elim) (fun _ _ _ q => q)) fun tm h q =>
    ends_seqC (N' := fun _ _ => True) (ends_seqC ((p2 tm h q).mono (fun _ _ q => q) (fun _ _ q => q.elim) (fun _ _ _ q => q)) fun tm h q => ?_) fun tm h _ => by simp [piece, sel, sub, Tryz.f27]
  obtain ⟨hb, t0, t1, t5⟩ := q
  refine ends_loop 0 (fun j tm h => ∃ i : Nat, j = l.length - i ∧ i ≤ l.length ∧ h = H.empty ∧ tm.get 0 = some (goalsV l) ∧ tm.get 1 = some (goalsV l) ∧ tm.get 5 = some (i64 (i : Nat))) l.length ⟨0, by omega, by omega, hb, t0, t1, t5⟩ (by omega) ?_
  rintro j tm h m ⟨i, rfl, hi, hb, t0, t1, t5⟩ -
  by_cases hlt : i < l.length
  · exact (f27_iter hb t0 t1 t5 (eh25 m) (eh69 m) (eh20 m) hlt (by omega)).mono (fun tm' h' q => ⟨_, by omega, i + 1, rfl, hlt, q⟩) (fun _ _ q => q.elim) (fun _ _ _ q => q.elim)
  · exact (f27_end hb t0 t1 t5 (by omega)).mono (fun _ _ q => q.elim) (fun _ _ q => q.elim) (fun _ _ _ q => ⟨q, trivial⟩)

/-! SameStore: three loops. -/
noncomputable def f26B0 : Code := piece Tryz.f26 [true,true,false,true,false,false]
noncomputable def f26B2 : Code := piece Tryz.f26 [true,true,true,false,true,false,false]
noncomputable def f26B4 : Code := piece Tryz.f26 [true,true,true,true,false,true,false,false]
theorem f26_split : Tryz.f26.body = some (.seq (piece Tryz.f26 [false]) (.seq (piece Tryz.f26 [true,false]) (.seq (.seq (piece Tryz.f26 [true,true,false,false]) (.block 0 (.loop f26B0))) (.seq (.seq (piece Tryz.f26 [true,true,true,false,false]) (.block 2 (.loop f26B2))) (.seq (.seq (piece Tryz.f26 [true,true,true,true,false,false]) (.block 4 (.loop f26B4))) (piece Tryz.f26 [true,true,true,true,true])))))) := rfl
def SsSt (x : Store) (tm : Tr Value) (h : H) : Prop := h = twoH (storeV x) 35 ∧ tm.get 2 = some (.pointer (some ⟨0, 0, none⟩)) ∧ tm.get 3 = some (.pointer (some ⟨1, 0, none⟩))
section
variable {ev : Task → Ans} {x : Store} {i : Nat} {tm : Tr Value} {h : H} (st : SsSt x tm h)
include st
theorem f26_iter0 (tc : tm.get 5 = some (i64 i)) (hev : ∀ y ∈ x.metas, ∀ h, ev (call0 66 [metaV y, metaV y] h) = .ret (.bool true) h none) (hi : i < x.metas.length) (hw1 : i + 1 ≤ big) :
    EndsAs (fun tm' h' => SsSt x tm' h' ∧ tm'.get 5 = some (i64 (i + 1 : Nat))) (fun _ _ => False) (fun _ _ _ => False) (runCode TT ev ⟨26, none⟩ f26B0 ⟨tm, [], h, none⟩) := by
  obtain ⟨rfl, t2, t3⟩ := st
  have e2 := wrapN hw1
  simp at e2
  have g1 := hev x.metas[i] (List.getElem_mem hi)

  simp [f26B0, piece, sel, sub, Tryz.f26, t2, t3, tc, hi, e2, g1, SsSt]
theorem f26_end0 (tc : tm.get 5 = some (i64 i)) (hi : x.metas.length ≤ i) : EndsAs (fun _ _ => False) (fun _ _ => False) (fun j tm' h' => j = 0 ∧ SsSt x tm' h') (runCode TT ev ⟨26, none⟩ f26B0 ⟨tm, [], h, none⟩) := by
  obtain ⟨rfl, t2, t3⟩ := st
  have hi' : ¬ i < x.metas.length := by omega
  simp [f26B0, piece, sel, sub, Tryz.f26, t2, t3, tc, hi', SsSt]

theorem f26_iter2 (tc : tm.get 6 = some (i64 i)) (hev : ∀ y ∈ x.eqns, ∀ h, ev (call0 67 [eqnV y, eqnV y] h) = .ret (.bool true) h none) (hi : i < x.eqns.length) (hw1 : i + 1 ≤ big) :
    EndsAs (fun tm' h' => SsSt x tm' h' ∧ tm'.get 6 = some (i64 (i + 1 : Nat))) (fun _ _ => False) (fun _ _ _ => False) (runCode TT ev ⟨26, none⟩ f26B2 ⟨tm, [], h, none⟩) := by
  obtain ⟨rfl, t2, t3⟩ := st
  have e2 := wrapN hw1
  simp at e2
  have g1 := hev x.eqns[i] (List.getElem_mem hi)

  simp [f26B2, piece, sel, sub, Tryz.f26, t2, t3, tc, hi, e2, g1, SsSt]
theorem f26_end2 (tc : tm.get 6 = some (i64 i)) (hi : x.eqns.length ≤ i) : EndsAs (fun _ _ => False) (fun _ _ => False) (fun j tm' h' => j = 2 ∧ SsSt x tm' h') (runCode TT ev ⟨26, none⟩ f26B2 ⟨tm, [], h, none⟩) := by
  obtain ⟨rfl, t2, t3⟩ := st
  have hi' : ¬ i < x.eqns.length := by omega
  simp [f26B2, piece, sel, sub, Tryz.f26, t2, t3, tc, hi', SsSt]

theorem f26_iter4 (tc : tm.get 7 = some (i64 i)) (hev : ∀ y ∈ x.bounds, ∀ h, ev (call0 68 [lvlV y.low, lvlV y.low] h) = .ret (.bool true) h none) (hev2 : ∀ y ∈ x.bounds, ∀ h, ev (call0 68 [lvlV y.high, lvlV y.high] h) = .ret (.bool true) h none) (hi : i < x.bounds.length) (hw1 : i + 1 ≤ big) :
    EndsAs (fun tm' h' => SsSt x tm' h' ∧ tm'.get 7 = some (i64 (i + 1 : Nat))) (fun _ _ => False) (fun _ _ _ => False) (runCode TT ev ⟨26, none⟩ f26B4 ⟨tm, [], h, none⟩) := by
  obtain ⟨rfl, t2, t3⟩ := st
  have e2 := wrapN hw1
  simp at e2
  have g1 := hev x.bounds[i] (List.getElem_mem hi)
  have g2 := hev2 x.bounds[i] (List.getElem_mem hi)
  simp [f26B4, piece, sel, sub, Tryz.f26, t2, t3, tc, hi, e2, g1, g2, SsSt]
theorem f26_end4 (tc : tm.get 7 = some (i64 i)) (hi : x.bounds.length ≤ i) : EndsAs (fun _ _ => False) (fun _ _ => False) (fun j tm' h' => j = 4 ∧ SsSt x tm' h') (runCode TT ev ⟨26, none⟩ f26B4 ⟨tm, [], h, none⟩) := by
  obtain ⟨rfl, t2, t3⟩ := st
  have hi' : ¬ i < x.bounds.length := by omega
  simp [f26B4, piece, sel, sub, Tryz.f26, t2, t3, tc, hi', SsSt]

end
theorem same26 : SameFn 26 (fun x : Store => x.ok big) storeV := by
  rintro x ⟨⟨hm1, hm2⟩, ⟨hq1, hq2⟩, hb1, hb2⟩
  obtain ⟨C, hC, H0, H1, H2⟩ : ∃ C, ConS TT Tryz.prog C ∧ Has C 66 (fun x : Meta => x.ok big) (fun x => [metaV x, metaV x]) (fun _ => .bool true) ∧ Has C 67 (fun x : Eqn => x.ok big) (fun x => [eqnV x, eqnV x]) (fun _ => .bool true) ∧ Has C 68 (fun x : Lvl => x.vars.length < big) (fun x => [lvlV x, lvlV x]) (fun _ => .bool true) :=
    ⟨_, addC_sound (addC_sound (addC_sound noC_sound same66) same67) same68, .skip (by decide) (.skip (by decide) Has.same), .skip (by decide) Has.same, Has.same⟩
  have e66 := fun n (y : Meta) (h1 : y ∈ x.metas) m => H0.ev (T := TT) n (x := y) (hm2 y h1) m
  have e67 := fun n (y : Eqn) (h1 : y ∈ x.eqns) m => H1.ev (T := TT) n (x := y) (hq2 y h1) m
  have e68 := fun n (y : Bound) (h1 : y ∈ x.bounds) m => H2.ev (T := TT) n (x := y.low) (hb2 y h1).1 m
  have e68' := fun n (y : Bound) (h1 : y ∈ x.bounds) m => H2.ev (T := TT) n (x := y.high) (hb2 y h1).2 m
  refine fnX_ends (v := .bool true) tok C hC (.cons (storeV_pure x) (.cons (storeV_pure x) .nil)) (.ground rfl) (x.metas.length + x.eqns.length + x.bounds.length + 1) TT.f26 f26_split rfl ?_
  have p0 : EndsAs (fun tm h => SsSt x tm h) (fun _ _ => False) (fun _ _ _ => False) (runCode TT (evK TT C (x.metas.length + x.eqns.length + x.bounds.length + 1 + 1)) ⟨26, none⟩ (piece Tryz.f26 [false]) ⟨initT [storeV x, storeV x] 0 .nil, [], H.empty, none⟩) := by
    simp [piece, sel, sub, Tryz.f26, twoH, SsSt]
  have p1 : ∀ tm h, SsSt x tm h → EndsAs (fun tm h => SsSt x tm h) (fun _ _ => False) (fun _ _ _ => False) (runCode TT (evK TT C (x.metas.length + x.eqns.length + x.bounds.length + 1 + 1)) ⟨26, none⟩ (piece Tryz.f26 [true,false]) ⟨tm, [], h, none⟩) := by
    rintro tm h ⟨rfl, t2, t3⟩
    simp [piece, sel, sub, Tryz.f26, t2, t3, SsSt]
  have p2 : ∀ tm h, SsSt x tm h → EndsAs (fun tm h => SsSt x tm h ∧ tm.get 5 = some (i64 (0 : Nat))) (fun _ _ => False) (fun _ _ _ => False) (runCode TT (evK TT C (x.metas.length + x.eqns.length + x.bounds.length + 1 + 1)) ⟨26, none⟩ (piece Tryz.f26 [true,true,false,false]) ⟨tm, [], h, none⟩) := by
    rintro tm h ⟨rfl, t2, t3⟩
    simp [piece, sel, sub, Tryz.f26, t2, t3, SsSt]
  have p3 : ∀ tm h, SsSt x tm h → EndsAs (fun tm h => SsSt x tm h ∧ tm.get 6 = some (i64 (0 : Nat))) (fun _ _ => False) (fun _ _ _ => False) (runCode TT (evK TT C (x.metas.length + x.eqns.length + x.bounds.length + 1 + 1)) ⟨26, none⟩ (piece Tryz.f26 [true,true,true,false,false]) ⟨tm, [], h, none⟩) := by
    rintro tm h ⟨rfl, t2, t3⟩
    simp [piece, sel, sub, Tryz.f26, t2, t3, SsSt]
  have p4 : ∀ tm h, SsSt x tm h → EndsAs (fun tm h => SsSt x tm h ∧ tm.get 7 = some (i64 (0 : Nat))) (fun _ _ => False) (fun _ _ _ => False) (runCode TT (evK TT C (x.metas.length + x.eqns.length + x.bounds.length + 1 + 1)) ⟨26, none⟩ (piece Tryz.f26 [true,true,true,true,false,false]) ⟨tm, [], h, none⟩) := by
    rintro tm h ⟨rfl, t2, t3⟩
    simp [piece, sel, sub, Tryz.f26, t2, t3, SsSt]
  refine ends_seqC (p0.mono (fun _ _ q => q) (fun _ _ q => q.elim) (fun _ _ _ q => q)) fun tm h q => ends_seqC ((p1 tm h q).mono (fun _ _ q => q) (fun _ _ q => q.elim) (fun _ _ _ q => q)) fun tm h q =>
    ends_seqC (N' := fun tm h => SsSt x tm h) (ends_seqC ((p2 tm h q).mono (fun _ _ q => q) (fun _ _ q => q.elim) (fun _ _ _ q => q)) fun tm h q => ?_) fun tm h q =>
    ends_seqC (N' := fun tm h => SsSt x tm h) (ends_seqC ((p3 tm h q).mono (fun _ _ q => q) (fun _ _ q => q.elim) (fun _ _ _ q => q)) fun tm h q => ?_) fun tm h q =>
    ends_seqC (N' := fun tm h => SsSt x tm h) (ends_seqC ((p4 tm h q).mono (fun _ _ q => q) (fun _ _ q => q.elim) (fun _ _ _ q => q)) fun tm h q => ?_) fun tm h _ => by simp [piece, sel, sub, Tryz.f26]
  · refine ends_loop 0 (fun j tm h => ∃ i : Nat, j = x.metas.length - i ∧ i ≤ x.metas.length ∧ SsSt x tm h ∧ tm.get 5 = some (i64 (i : Nat))) x.metas.length ⟨0, by omega, by omega, q.1, q.2⟩ (by omega) ?_
    rintro j tm h m ⟨i, rfl, hi, st, tc⟩ -
    by_cases hlt : i < x.metas.length
    · exact (f26_iter0 st tc (e66 m) hlt (by omega)).mono (fun tm' h' q => ⟨_, by omega, i + 1, rfl, hlt, q⟩) (fun _ _ q => q.elim) (fun _ _ _ q => q.elim)
    · exact (f26_end0 st tc (by omega)).mono (fun _ _ q => q.elim) (fun _ _ q => q.elim) (fun _ _ _ q => q)
  · refine ends_loop 0 (fun j tm h => ∃ i : Nat, j = x.eqns.length - i ∧ i ≤ x.eqns.length ∧ SsSt x tm h ∧ tm.get 6 = some (i64 (i : Nat))) x.eqns.length ⟨0, by omega, by omega, q.1, q.2⟩ (by omega) ?_
    rintro j tm h m ⟨i, rfl, hi, st, tc⟩ -
    by_cases hlt : i < x.eqns.length
    · exact (f26_iter2 st tc (e67 m) hlt (by omega)).mono (fun tm' h' q => ⟨_, by omega, i + 1, rfl, hlt, q⟩) (fun _ _ q => q.elim) (fun _ _ _ q => q.elim)
    · exact (f26_end2 st tc (by omega)).mono (fun _ _ q => q.elim) (fun _ _ q => q.elim) (fun _ _ _ q => q)
  · refine ends_loop 0 (fun j tm h => ∃ i : Nat, j = x.bounds.length - i ∧ i ≤ x.bounds.length ∧ SsSt x tm h ∧ tm.get 7 = some (i64 (i : Nat))) x.bounds.length ⟨0, by omega, by omega, q.1, q.2⟩ (by omega) ?_
    rintro j tm h m ⟨i, rfl, hi, st, tc⟩ -
    by_cases hlt : i < x.bounds.length
    · exact (f26_iter4 st tc (e68 m) (e68' m) hlt (by omega)).mono (fun tm' h' q => ⟨_, by omega, i + 1, rfl, hlt, q⟩) (fun _ _ q => q.elim) (fun _ _ _ q => q.elim)
    · exact (f26_end4 st tc (by omega)).mono (fun _ _ q => q.elim) (fun _ _ q => q.elim) (fun _ _ _ q => q)
theorem same11 : SameFn 11 (fun x : Proof => x.ok big) proofV := by
  rintro x ⟨h1, h2, h3, h4, h5⟩
  obtain ⟨C, hC, H0, H1, H2, H3⟩ : ∃ C, ConS TT Tryz.prog C ∧ Has C 20 (fun x : Term => wt x < big) (fun x => [tv x, tv x]) (fun _ => .bool true) ∧ Has C 26 (fun x : Store => x.ok big) (fun x => [storeV x, storeV x]) (fun _ => .bool true) ∧ Has C 25 (fun l : List ByteArray => l.length < big) (fun x => [strsV x, strsV x]) (fun _ => .bool true) ∧
      Has C 27 (fun l : List Goal => l.length < big ∧ ∀ x ∈ l, x.ok big) (fun x => [goalsV x, goalsV x]) (fun _ => .bool true) :=
    ⟨_, addC_sound (addC_sound (addC_sound (addC_sound noC_sound same20) same26) same25) same27, .skip (by decide) (.skip (by decide) (.skip (by decide) Has.same)), .skip (by decide) (.skip (by decide) Has.same), .skip (by decide) Has.same, Has.same⟩
  have e1 := fun n m => H2.ev (T := TT) n (x := x.levels) h1 m
  have e2 := fun n m => H1.ev (T := TT) n (x := x.store) h2 m
  have e3 := fun n m => H3.ev (T := TT) n (x := x.goals) h3 m
  have e4 := fun n m => H0.ev (T := TT) n (x := x.type) h4 m
  have e5 := fun n m => H0.ev (T := TT) n (x := x.root) h5 m
  refine fnX_ends (v := .bool true) tok C hC (.cons (proofV_pure x) (.cons (proofV_pure x) .nil)) (.ground rfl) 1 TT.f11 rfl rfl ?_
  simp [Tryz.f11, e1, e2, e3, e4, e5]
end Go.Proofs.YtkdfgoimgcegfaaGreatDoor
