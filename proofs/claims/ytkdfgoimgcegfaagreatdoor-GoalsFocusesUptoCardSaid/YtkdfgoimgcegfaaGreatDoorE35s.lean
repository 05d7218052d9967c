/- Layer 35: equality of the references, on equal data. -/
import Derived.Test.YtkdfgoimgcegfaaGreatDoorQ35
import Derived.Test.YtkdfgoimgcegfaaGreatDoorC35
set_option linter.unusedSectionVars false
set_option linter.unusedSimpArgs false
set_option linter.unusedVariables false
namespace Go.Proofs.YtkdfgoimgcegfaaGreatDoor
open Go Go.Am Go.Proofs Go.Am.Sym Go.Am.Eu
set_option maxRecDepth 10000
/-- A function answers true on equal arguments. -/
abbrev SameFn {α : Type} (g : FuncId) (pre : α → Prop) (v : α → Value) : Prop := FnC TT Tryz.prog g pre (fun x => [v x, v x]) (fun _ => .bool true)
theorem Has.same {α : Type} {C : Con} {g : FuncId} {pre : α → Prop} {v : α → Value} : Has (addC g (fnC pre (fun x => [v x, v x]) (fun _ => .bool true)) C) g pre (fun x => [v x, v x]) (fun _ => .bool true) := .add fun _ _ _ => rfl
noncomputable def twoH (v : Value) (t : TypeId) : H := (H.empty.new (.cells (cellsL v) t false)).new (.cells (cellsL v) t false)
@[simp] theorem twoH_base (v : Value) (t : TypeId) : (twoH v t).base = 0 := by simp [twoH]
@[simp] theorem twoH_next (v : Value) (t : TypeId) : (twoH v t).next = 2 := by simp [twoH]
@[simp] theorem twoH_get0 (v : Value) (t : TypeId) : (twoH v t).get 0 = some (.cells (cellsL v) t false) := by simp [twoH]
@[simp] theorem twoH_get1 (v : Value) (t : TypeId) : (twoH v t).get 1 = some (.cells (cellsL v) t false) := by simp [twoH]

theorem TT.f25 : TT.func 25 = some Tryz.f25 := by kernel_rfl
noncomputable def f25B : Code := piece Tryz.f25 [true,true,false,true,false,false]
theorem f25_split : Tryz.f25.body = some (.seq (piece Tryz.f25 [false]) (.seq (piece Tryz.f25 [true,false]) (.seq (.seq (piece Tryz.f25 [true,true,false,false]) (.block 0 (.loop f25B))) (piece Tryz.f25 [true,true,true])))) := rfl
section
variable {ev : Task → Ans} {l : List ByteArray} {i : Nat} {tm : Tr Value} {h : H} (hb : h = H.empty) (t0 : tm.get 0 = some (strsV l)) (t1 : tm.get 1 = some (strsV l)) (t5 : tm.get 5 = some (i64 i))
include hb t0 t1 t5
theorem f25_iter  (hi : i < l.length) (hw1 : i + 1 ≤ big) :
    EndsAs (fun tm' h' => h' = H.empty ∧ tm'.get 0 = some (strsV l) ∧ tm'.get 1 = some (strsV l) ∧ tm'.get 5 = some (i64 (i + 1 : Nat))) (fun _ _ => False) (fun _ _ _ => False) (runCode TT ev ⟨25, none⟩ f25B ⟨tm, [], h, none⟩) := by
  subst hb
  have e2 := wrapN hw1
  simp at e2

  simp [f25B, piece, sel, sub, Tryz.f25, t0, t1, t5, hi, e2, condK_if]
theorem f25_end (hi : l.length ≤ i) : EndsAs (fun _ _ => False) (fun _ _ => False) (fun j _ _ => j = 0) (runCode TT ev ⟨25, none⟩ f25B ⟨tm, [], h, none⟩) := by
  subst hb
  have hi' : ¬ i < l.length := by omega
  simp [f25B, piece, sel, sub, Tryz.f25, t0, t1, t5, hi']
end
theorem same25 : SameFn 25 (fun l : List ByteArray => l.length < big) strsV := by
  intro l hl
  have hl : l.length < big := hl
  obtain ⟨C, hC⟩ : ∃ C, ConS TT Tryz.prog C := ⟨_, noC_sound⟩
  refine fnX_ends (v := .bool true) tok C hC (.cons (strsV_pure l) (.cons (strsV_pure l) .nil)) (.ground rfl) (l.length + 1) TT.f25 f25_split rfl ?_
  have p0 : EndsAs (fun tm h => h = H.empty ∧ tm.get 0 = some (strsV l) ∧ tm.get 1 = some (strsV l)) (fun _ _ => False) (fun _ _ _ => False) (runCode TT (evK TT C (l.length + 1 + 1)) ⟨25, none⟩ (piece Tryz.f25 [false]) ⟨initT [strsV l, strsV l] 0 .nil, [], H.empty, none⟩) := by
    simp [piece, sel, sub, Tryz.f25]
  have p1 : ∀ tm h, (h = H.empty ∧ tm.get 0 = some (strsV l) ∧ tm.get 1 = some (strsV l)) → EndsAs (fun tm h => h = H.empty ∧ tm.get 0 = some (strsV l) ∧ tm.get 1 = some (strsV l)) (fun _ _ => False) (fun _ _ _ => False) (runCode TT (evK TT C (l.length + 1 + 1)) ⟨25, none⟩ (piece Tryz.f25 [true,false]) ⟨tm, [], h, none⟩) := by
    rintro tm h ⟨rfl, t0, t1⟩
    simp [piece, sel, sub, Tryz.f25, t0, t1]
  have p2 : ∀ tm h, (h = H.empty ∧ tm.get 0 = some (strsV l) ∧ tm.get 1 = some (strsV l)) → EndsAs (fun tm h => h = H.empty ∧ tm.get 0 = some (strsV l) ∧ tm.get 1 = some (strsV l) ∧ tm.get 5 = some (i64 (0 : Nat))) (fun _ _ => False) (fun _ _ _ => False) (runCode TT (evK TT C (l.length + 1 + 1)) ⟨25, none⟩ (piece Tryz.f25 [true,true,false,false]) ⟨tm, [], h, none⟩) := by
    rintro tm h ⟨rfl, t0, t1⟩
    simp [piece, sel, sub, Tryz.f25, t0, t1]
  refine ends_seqC (p0.mono (fun _ _ q => q) (fun _ _ q => q.elim) (fun _ _ _ q => q)) fun tm h q => ends_seqC ((p1 tm h q).mono (fun _ _ q => q) (fun _ _ q => q.elim) (fun _ _ _ q => q)) fun tm h q =>
    ends_seqC (N' := fun _ _ => True) (ends_seqC ((p2 tm h q).mono (fun _ _ q => q) (fun _ _ q => q.elim) (fun _ _ _ q => q)) fun tm h q => ?_) fun tm h _ => by simp [piece, sel, sub, Tryz.f25]
  obtain ⟨hb, t0, t1, t5⟩ := q
  refine ends_loop 0 (fun j tm h => ∃ i : Nat, j = l.length - i ∧ i ≤ l.length ∧ h = H.empty ∧ tm.get 0 = some (strsV l) ∧ tm.get 1 = some (strsV l) ∧ tm.get 5 = some (i64 (i : Nat))) l.length ⟨0, by omega, by omega, hb, t0, t1, t5⟩ (by omega) ?_
  rintro j tm h m ⟨i, rfl, hi, hb, t0, t1, t5⟩ -
  by_cases hlt : i < l.length
  · exact (f25_iter hb t0 t1 t5  hlt (by omega)).mono (fun tm' h' q => ⟨_, by omega, i + 1, rfl, hlt, q⟩) (fun _ _ q => q.elim) (fun _ _ _ q => q.elim)
  · exact (f25_end hb t0 t1 t5 (by omega)).mono (fun _ _ q => q.elim) (fun _ _ q => q.elim) (fun _ _ _ q => ⟨q, trivial⟩)

theorem TT.f68 : TT.func 68 = some Tryz.f68 := by kernel_rfl
noncomputable def f68B : Code := piece Tryz.f68 [true,true,false,true,false,false]
theorem f68_split : Tryz.f68.body = some (.seq (piece Tryz.f68 [false]) (.seq (piece Tryz.f68 [true,false]) (.seq (.seq (piece Tryz.f68 [true,true,false,false]) (.block 0 (.loop f68B))) (piece Tryz.f68 [true,true,true])))) := rfl
section
variable {ev : Task → Ans} {x : Lvl} {i : Nat} {tm : Tr Value} {h : H} (hb : h = twoH (lvlV x) 86) (t2 : tm.get 2 = some (.pointer (some ⟨0, 0, none⟩))) (t3 : tm.get 3 = some (.pointer (some ⟨1, 0, none⟩))) (t5 : tm.get 5 = some (i64 i))
include hb t2 t3 t5
theorem f68_iter  (hi : i < x.vars.length) (hw1 : i + 1 ≤ big) :
    EndsAs (fun tm' h' => h' = twoH (lvlV x) 86 ∧ tm'.get 2 = some (.pointer (some ⟨0, 0, none⟩)) ∧ tm'.get 3 = some (.pointer (some ⟨1, 0, none⟩)) ∧ tm'.get 5 = some (i64 (i + 1 : Nat))) (fun _ _ => False) (fun _ _ _ => False) (runCode TT ev ⟨68, none⟩ f68B ⟨tm, [], h, none⟩) := by
  subst hb
  have e2 := wrapN hw1
  simp at e2

  simp [f68B, piece, sel, sub, Tryz.f68, t2, t3, t5, hi, e2, condK_if]
theorem f68_end (hi : x.vars.length ≤ i) : EndsAs (fun _ _ => False) (fun _ _ => False) (fun j _ _ => j = 0) (runCode TT ev ⟨68, none⟩ f68B ⟨tm, [], h, none⟩) := by
  subst hb
  have hi' : ¬ i < x.vars.length := by omega
  simp [f68B, piece, sel, sub, Tryz.f68, t2, t3, t5, hi']
end
theorem same68 : SameFn 68 (fun x : Lvl => x.vars.length < big) lvlV := by
  intro x hx
  have hx : x.vars.length < big := hx
  obtain ⟨C, hC⟩ : ∃ C, ConS TT Tryz.prog C := ⟨_, noC_sound⟩
  refine fnX_ends (v := .bool true) tok C hC (.cons (lvlV_pure x) (.cons (lvlV_pure x) .nil)) (.ground rfl) (x.vars.length + 1) TT.f68 f68_split rfl ?_
  have p0 : EndsAs (fun tm h => h = twoH (lvlV x) 86 ∧ tm.get 2 = some (.pointer (some ⟨0, 0, none⟩)) ∧ tm.get 3 = some (.pointer (some ⟨1, 0, none⟩))) (fun _ _ => False) (fun _ _ _ => False) (runCode TT (evK TT C (x.vars.length + 1 + 1)) ⟨68, none⟩ (piece Tryz.f68 [false]) ⟨initT [lvlV x, lvlV x] 0 .nil, [], H.empty, none⟩) := by
    simp [piece, sel, sub, Tryz.f68, twoH]
  have p1 : ∀ tm h, (h = twoH (lvlV x) 86 ∧ tm.get 2 = some (.pointer (some ⟨0, 0, none⟩)) ∧ tm.get 3 = some (.pointer (some ⟨1, 0, none⟩))) → EndsAs (fun tm h => h = twoH (lvlV x) 86 ∧ tm.get 2 = some (.pointer (some ⟨0, 0, none⟩)) ∧ tm.get 3 = some (.pointer (some ⟨1, 0, none⟩))) (fun _ _ => False) (fun _ _ _ => False) (runCode TT (evK TT C (x.vars.length + 1 + 1)) ⟨68, none⟩ (piece Tryz.f68 [true,false]) ⟨tm, [], h, none⟩) := by
    rintro tm h ⟨rfl, t2, t3⟩
    simp [piece, sel, sub, Tryz.f68, t2, t3]
  have p2 : ∀ tm h, (h = twoH (lvlV x) 86 ∧ tm.get 2 = some (.pointer (some ⟨0, 0, none⟩)) ∧ tm.get 3 = some (.pointer (some ⟨1, 0, none⟩))) → EndsAs (fun tm h => h = twoH (lvlV x) 86 ∧ tm.get 2 = some (.pointer (some ⟨0, 0, none⟩)) ∧ tm.get 3 = some (.pointer (some ⟨1, 0, none⟩)) ∧ tm.get 5 = some (i64 (0 : Nat))) (fun _ _ => False) (fun _ _ _ => False) (runCode TT (evK TT C (x.vars.length + 1 + 1)) ⟨68, none⟩ (piece Tryz.f68 [true,true,false,false]) ⟨tm, [], h, none⟩) := by
    rintro tm h ⟨rfl, t2, t3⟩
    simp [piece, sel, sub, Tryz.f68, t2, t3]
  refine ends_seqC (p0.mono (fun _ _ q => q) (fun _ _ q => q.elim) (fun _ _ _ q => q)) fun tm h q => ends_seqC ((p1 tm h q).mono (fun _ _ q => q) (fun _ _ q => q.elim) (fun _ _ _ q => q)) fun tm h q =>
    ends_seqC (N' := fun _ _ => True) (ends_seqC ((p2 tm h q).mono (fun _ _ q => q) (fun _ _ q => q.elim) (fun _ _ _ q => q)) fun tm h q => ?_) fun tm h _ => by simp [piece, sel, sub, Tryz.f68]
  obtain ⟨hb, t2, t3, t5⟩ := q
  refine ends_loop 0 (fun j tm h => ∃ i : Nat, j = x.vars.length - i ∧ i ≤ x.vars.length ∧ h = twoH (lvlV x) 86 ∧ tm.get 2 = some (.pointer (some ⟨0, 0, none⟩)) ∧ tm.get 3 = some (.pointer (some ⟨1, 0, none⟩)) ∧ tm.get 5 = some (i64 (i : Nat))) x.vars.length ⟨0, by omega, by omega, hb, t2, t3, t5⟩ (by omega) ?_
  rintro j tm h m ⟨i, rfl, hi, hb, t2, t3, t5⟩ -
  by_cases hlt : i < x.vars.length
  · exact (f68_iter hb t2 t3 t5  hlt (by omega)).mono (fun tm' h' q => ⟨_, by omega, i + 1, rfl, hlt, q⟩) (fun _ _ q => q.elim) (fun _ _ _ q => q.elim)
  · exact (f68_end hb t2 t3 t5 (by omega)).mono (fun _ _ q => q.elim) (fun _ _ q => q.elim) (fun _ _ _ q => ⟨q, trivial⟩)

theorem TT.f52 : TT.func 52 = some Tryz.f52 := by kernel_rfl
noncomputable def f52B : Code := piece Tryz.f52 [true,true,false,true,false,false]
theorem f52_split : Tryz.f52.body = some (.seq (piece Tryz.f52 [false]) (.seq (piece Tryz.f52 [true,false]) (.seq (.seq (piece Tryz.f52 [true,true,false,false]) (.block 0 (.loop f52B))) (piece Tryz.f52 [true,true,true])))) := rfl
section
variable {ev : Task → Ans} {l : List Lvl} {i : Nat} {tm : Tr Value} {h : H} (hb : h = H.empty) (t0 : tm.get 0 = some (lvlsV l)) (t1 : tm.get 1 = some (lvlsV l)) (t5 : tm.get 5 = some (i64 i))
include hb t0 t1 t5
theorem f52_iter (h68 : ∀ x ∈ l, ∀ h, ev (call0 68 [lvlV x, lvlV x] h) = .ret (.bool true) h none) (hi : i < l.length) (hw1 : i + 1 ≤ big) :
    EndsAs (fun tm' h' => h' = H.empty ∧ tm'.get 0 = some (lvlsV l) ∧ tm'.get 1 = some (lvlsV l) ∧ tm'.get 5 = some (i64 (i + 1 : Nat))) (fun _ _ => False) (fun _ _ _ => False) (runCode TT ev ⟨52, none⟩ f52B ⟨tm, [], h, none⟩) := by
  subst hb
  have e2 := wrapN hw1
  simp at e2
  have gh68 := h68 l[i] (List.getElem_mem hi)
  simp [f52B, piece, sel, sub, Tryz.f52, t0, t1, t5, hi, e2, gh68, condK_if]
theorem f52_end (hi : l.length ≤ i) : EndsAs (fun _ _ => False) (fun _ _ => False) (fun j _ _ => j = 0) (runCode TT ev ⟨52, none⟩ f52B ⟨tm, [], h, none⟩) := by
  subst hb
  have hi' : ¬ i < l.length := by omega
  simp [f52B, piece, sel, sub, Tryz.f52, t0, t1, t5, hi']
end
theorem same52 : SameFn 52 (fun l : List Lvl => l.length < big ∧ ∀ x ∈ l, x.vars.length < big) lvlsV := by
  rintro l ⟨hl, hx⟩
  have hl : l.length < big := hl
  obtain ⟨C, hC, H1⟩ : ∃ C, ConS TT Tryz.prog C ∧ Has C 68 (fun x : Lvl => x.vars.length < big) (fun x => [lvlV x, lvlV x]) (fun _ => .bool true) := ⟨_, addC_sound noC_sound same68, Has.same⟩
  have eh68 := fun n (x : Lvl) (h1 : x ∈ l) m => H1.ev (T := TT) n (x := x) (hx x h1) m
  refine fnX_ends (v := .bool true) tok C hC (.cons (lvlsV_pure l) (.cons (lvlsV_pure l) .nil)) (.ground rfl) (l.length + 1) TT.f52 f52_split rfl ?_
  have p0 : EndsAs (fun tm h => h = H.empty ∧ tm.get 0 = some (lvlsV l) ∧ tm.get 1 = some (lvlsV l)) (fun _ _ => False) (fun _ _ _ => False) (runCode TT (evK TT C (l.length + 1 + 1)) ⟨52, none⟩ (piece Tryz.f52 [false]) ⟨initT [lvlsV l, lvlsV l] 0 .nil, [], H.empty, none⟩) := by
    simp [piece, sel, sub, Tryz.f52]
  have p1 : ∀ tm h, (h = H.empty ∧ tm.get 0 = some (lvlsV l) ∧ tm.get 1 = some (lvlsV l)) → EndsAs (fun tm h => h = H.empty ∧ tm.get 0 = some (lvlsV l) ∧ tm.get 1 = some (lvlsV l)) (fun _ _ => False) (fun _ _ _ => False) (runCode TT (evK TT C (l.length + 1 + 1)) ⟨52, none⟩ (piece Tryz.f52 [true,false]) ⟨tm, [], h, none⟩) := by
    rintro tm h ⟨rfl, t0, t1⟩
    simp [piece, sel, sub, Tryz.f52, t0, t1]
  have p2 : ∀ tm h, (h = H.empty ∧ tm.get 0 = some (lvlsV l) ∧ tm.get 1 = some (lvlsV l)) → EndsAs (fun tm h => h = H.empty ∧ tm.get 0 = some (lvlsV l) ∧ tm.get 1 = some (lvlsV l) ∧ tm.get 5 = some (i64 (0 : Nat))) (fun _ _ => False) (fun _ _ _ => False) (runCode TT (evK TT C (l.length + 1 + 1)) ⟨52, none⟩ (piece Tryz.f52 [true,true,false,false]) ⟨tm, [], h, none⟩) := by
    rintro tm h ⟨rfl, t0, t1⟩
    simp [piece, sel, sub, Tryz.f52, t0, t1]
  refine ends_seqC (p0.mono (fun _ _ q => q) (fun _ _ q => q.elim) (fun _ _ _ q => q)) fun tm h q => ends_seqC ((p1 tm h q).mono (fun _ _ q => q) (fun _ _ q => q.elim) (fun _ _ _ q => q)) fun tm h q =>
    ends_seqC (N' := fun _ _ => True) (ends_seqC ((p2 tm h q).mono (fun _ _ q => q) (fun _ _ q => q.elim) (fun _ _ _ q => q)) fun tm h q => ?_) fun tm h _ => by simp [piece, sel, sub, Tryz.f52]
  obtain ⟨hb, t0, t1, t5⟩ := q
  refine ends_loop 0 (fun j tm h => ∃ i : Nat, j = l.length - i ∧ i ≤ l.length ∧ h = H.empty ∧ tm.get 0 = some (lvlsV l) ∧ tm.get 1 = some (lvlsV l) ∧ tm.get 5 = some (i64 (i : Nat))) l.length ⟨0, by omega, by omega, hb, t0, t1, t5⟩ (by omega) ?_
  rintro j tm h m ⟨i, rfl, hi, hb, t0, t1, t5⟩ -
  by_cases hlt : i < l.length
  · exact (f52_iter hb t0 t1 t5 (eh68 m) hlt (by omega)).mono (fun tm' h' q => ⟨_, by omega, i + 1, rfl, hlt, q⟩) (fun _ _ q => q.elim) (fun _ _ _ q => q.elim)
  · exact (f52_end hb t0 t1 t5 (by omega)).mono (fun _ _ q => q.elim) (fun _ _ q => q.elim) (fun _ _ _ q => ⟨q, trivial⟩)

theorem TT.f20 : TT.func 20 = some Tryz.f20 := by kernel_rfl
noncomputable def f20B : Code := piece Tryz.f20 [true,true,false,true,false,false]
theorem f20_split : Tryz.f20.body = some (.seq (piece Tryz.f20 [false]) (.seq (piece Tryz.f20 [true,false]) (.seq (.seq (piece Tryz.f20 [true,true,false,false]) (.block 0 (.loop f20B))) (piece Tryz.f20 [true,true,true])))) := rfl
section
variable {ev : Task → Ans} {x : Term} {i : Nat} {tm : Tr Value} {h : H} (hb : h = twoH (tv x) 26) (t2 : tm.get 2 = some (.pointer (some ⟨0, 0, none⟩))) (t3 : tm.get 3 = some (.pointer (some ⟨1, 0, none⟩))) (t5 : tm.get 5 = some (i64 i))
include hb t2 t3 t5
theorem f20_iter (h20 : ∀ y ∈ x.kids, ∀ h, ev (call0 20 [tv y, tv y] h) = .ret (.bool true) h none) (hi : i < x.kids.length) (hw1 : i + 1 ≤ big) :
    EndsAs (fun tm' h' => h' = twoH (tv x) 26 ∧ tm'.get 2 = some (.pointer (some ⟨0, 0, none⟩)) ∧ tm'.get 3 = some (.pointer (some ⟨1, 0, none⟩)) ∧ tm'.get 5 = some (i64 (i + 1 : Nat))) (fun _ _ => False) (fun _ _ _ => False) (runCode TT ev ⟨20, none⟩ f20B ⟨tm, [], h, none⟩) := by
  subst hb
  have e2 := wrapN hw1
  simp at e2
  have gh20 := h20 x.kids[i] (List.getElem_mem hi)
  simp [f20B, piece, sel, sub, Tryz.f20, t2, t3, t5, hi, e2, gh20, condK_if]
theorem f20_end (hi : x.kids.length ≤ i) : EndsAs (fun _ _ => False) (fun _ _ => False) (fun j _ _ => j = 0) (runCode TT ev ⟨20, none⟩ f20B ⟨tm, [], h, none⟩) := by
  subst hb
  have hi' : ¬ i < x.kids.length := by omega
  simp [f20B, piece, sel, sub, Tryz.f20, t2, t3, t5, hi']
end
theorem same20 : SameFn 20 (fun x : Term => wt x < big) tv := by
  refine fnX_rec wt fun x hx hrec => ?_
  have hx : wt x < big := hx
  obtain ⟨C, hC, H0, H1⟩ : ∃ C, ConS TT Tryz.prog C ∧ Has C 20 (fun y : Term => wt y < wt x ∧ wt y < big) (fun y => [tv y, tv y]) (fun _ => .bool true) ∧ Has C 52 (fun l : List Lvl => l.length < big ∧ ∀ x ∈ l, x.vars.length < big) (fun l => [lvlsV l, lvlsV l]) (fun _ => .bool true) := ⟨_, addC_sound (addC_sound noC_sound hrec) same52, .skip (by decide) Has.same, Has.same⟩
  have hk := wt_kids x
  have hlv := wt_levels x
  have eh20 := fun n (y : Term) (h1 : y ∈ x.kids) m => H0.ev (T := TT) n (x := y) ⟨wt_kid h1, by have := wt_kid h1; omega⟩ m
  have e52 := fun n m => H1.ev (T := TT) n (x := x.levels) ⟨by omega, fun y hy => by have := wt_level hy; omega⟩ m
  refine fnX_ends (v := .bool true) tok C hC (.cons (tv_pure x) (.cons (tv_pure x) .nil)) (.ground rfl) (x.kids.length + 1) TT.f20 f20_split rfl ?_
  have p0 : EndsAs (fun tm h => h = twoH (tv x) 26 ∧ tm.get 2 = some (.pointer (some ⟨0, 0, none⟩)) ∧ tm.get 3 = some (.pointer (some ⟨1, 0, none⟩))) (fun _ _ => False) (fun _ _ _ => False) (runCode TT (evK TT C (x.kids.length + 1 + 1)) ⟨20, none⟩ (piece Tryz.f20 [false]) ⟨initT [tv x, tv x] 0 .nil, [], H.empty, none⟩) := by
    simp [piece, sel, sub, Tryz.f20, twoH]
  have p1 : ∀ tm h, (h = twoH (tv x) 26 ∧ tm.get 2 = some (.pointer (some ⟨0, 0, none⟩)) ∧ tm.get 3 = some (.pointer (some ⟨1, 0, none⟩))) → EndsAs (fun tm h => h = twoH (tv x) 26 ∧ tm.get 2 = some (.pointer (some ⟨0, 0, none⟩)) ∧ tm.get 3 = some (.pointer (some ⟨1, 0, none⟩))) (fun _ _ => False) (fun _ _ _ => False) (runCode TT (evK TT C (x.kids.length + 1 + 1)) ⟨20, none⟩ (piece Tryz.f20 [true,false]) ⟨tm, [], h, none⟩) := by
    rintro tm h ⟨rfl, t2, t3⟩
    simp [piece, sel, sub, Tryz.f20, t2, t3, e52]
  have p2 : ∀ tm h, (h = twoH (tv x) 26 ∧ tm.get 2 = some (.pointer (some ⟨0, 0, none⟩)) ∧ tm.get 3 = some (.pointer (some ⟨1, 0, none⟩))) → EndsAs (fun tm h => h = twoH (tv x) 26 ∧ tm.get 2 = some (.pointer (some ⟨0, 0, none⟩)) ∧ tm.get 3 = some (.pointer (some ⟨1, 0, none⟩)) ∧ tm.get 5 = some (i64 (0 : Nat))) (fun _ _ => False) (fun _ _ _ => False) (runCode TT (evK TT C (x.kids.length + 1 + 1)) ⟨20, none⟩ (piece Tryz.f20 [true,true,false,false]) ⟨tm, [], h, none⟩) := by
    rintro tm h ⟨rfl, t2, t3⟩
    simp [piece, sel, sub, Tryz.f20, t2, t3]
  refine ends_seqC (p0.mono (fun _ _ q => q) (fun _ _ q => q.elim) (fun _ _ _ q => q)) fun tm h q => ends_seqC ((p1 tm h q).mono (fun _ _ q => q) (fun _ _ q => q.elim) (fun _ _ _ q => q)) fun tm h q =>
    ends_seqC (N' := fun _ _ => True) (ends_seqC ((p2 tm h q).mono (fun _ _ q => q) (fun _ _ q => q.elim) (fun _ _ _ q => q)) fun tm h q => ?_) fun tm h _ => by simp [piece, sel, sub, Tryz.f20]
  obtain ⟨hb, t2, t3, t5⟩ := q
  refine ends_loop 0 (fun j tm h => ∃ i : Nat, j = x.kids.length - i ∧ i ≤ x.kids.length ∧ h = twoH (tv x) 26 ∧ tm.get 2 = some (.pointer (some ⟨0, 0, none⟩)) ∧ tm.get 3 = some (.pointer (some ⟨1, 0, none⟩)) ∧ tm.get 5 = some (i64 (i : Nat))) x.kids.length ⟨0, by omega, by omega, hb, t2, t3, t5⟩ (by omega) ?_
  rintro j tm h m ⟨i, rfl, hi, hb, t2, t3, t5⟩ -
  by_cases hlt : i < x.kids.length
  · exact (f20_iter hb t2 t3 t5 (eh20 m) hlt (by omega)).mono (fun tm' h' q => ⟨_, by omega, i + 1, rfl, hlt, q⟩) (fun _ _ q => q.elim) (fun _ _ _ q => q.elim)
  · exact (f20_end hb t2 t3 t5 (by omega)).mono (fun _ _ q => q.elim) (fun _ _ q => q.elim) (fun _ _ _ q => ⟨q, trivial⟩)

theorem TT.f69 : TT.func 69 = some Tryz.f69 := by kernel_rfl
noncomputable def f69B : Code := piece Tryz.f69 [true,true,false,true,false,false]
theorem f69_split : Tryz.f69.body = some (.seq (piece Tryz.f69 [false]) (.seq (piece Tryz.f69 [true,false]) (.seq (.seq (piece Tryz.f69 [true,true,false,false]) (.block 0 (.loop f69B))) (piece Tryz.f69 [true,true,true])))) := rfl
section
variable {ev : Task → Ans} {l : List Term} {i : Nat} {tm : Tr Value} {h : H} (hb : h = H.empty) (t0 : tm.get 0 = some (termsV l)) (t1 : tm.get 1 = some (termsV l)) (t5 : tm.get 5 = some (i64 i))
include hb t0 t1 t5
theorem f69_iter (h20 : ∀ x ∈ l, ∀ h, ev (call0 20 [tv x, tv x] h) = .ret (.bool true) h none) (hi : i < l.length) (hw1 : i + 1 ≤ big) :
    EndsAs (fun tm' h' => h' = H.empty ∧ tm'.get 0 = some (termsV l) ∧ tm'.get 1 = some (termsV l) ∧ tm'.get 5 = some (i64 (i + 1 : Nat))) (fun _ _ => False) (fun _ _ _ => False) (runCode TT ev ⟨69, none⟩ f69B ⟨tm, [], h, none⟩) := by
  subst hb
  have e2 := wrapN hw1
  simp at e2
  have gh20 := h20 l[i] (List.getElem_mem hi)
  simp [f69B, piece, sel, sub, Tryz.f69, t0, t1, t5, hi, e2, gh20, condK_if]
theorem f69_end (hi : l.length ≤ i) : EndsAs (fun _ _ => False) (fun _ _ => False) (fun j _ _ => j = 0) (runCode TT ev ⟨69, none⟩ f69B ⟨tm, [], h, none⟩) := by
  subst hb
  have hi' : ¬ i < l.length := by omega
  simp [f69B, piece, sel, sub, Tryz.f69, t0, t1, t5, hi']
end
theorem same69 : SameFn 69 (fun l : List Term => l.length < big ∧ ∀ x ∈ l, wt x < big) termsV := by
  rintro l ⟨hl, hx⟩
  have hl : l.length < big := hl
  obtain ⟨C, hC, H1⟩ : ∃ C, ConS TT Tryz.prog C ∧ Has C 20 (fun x : Term => wt x < big) (fun x => [tv x, tv x]) (fun _ => .bool true) := ⟨_, addC_sound noC_sound same20, Has.same⟩
  have eh20 := fun n (x : Term) (h1 : x ∈ l) m => H1.ev (T := TT) n (x := x) (hx x h1) m
  refine fnX_ends (v := .bool true) tok C hC (.cons (termsV_pure l) (.cons (termsV_pure l) .nil)) (.ground rfl) (l.length + 1) TT.f69 f69_split rfl ?_
  have p0 : EndsAs (fun tm h => h = H.empty ∧ tm.get 0 = some (termsV l) ∧ tm.get 1 = some (termsV l)) (fun _ _ => False) (fun _ _ _ => False) (runCode TT (evK TT C (l.length + 1 + 1)) ⟨69, none⟩ (piece Tryz.f69 [false]) ⟨initT [termsV l, termsV l] 0 .nil, [], H.empty, none⟩) := by
    simp [piece, sel, sub, Tryz.f69]
  have p1 : ∀ tm h, (h = H.empty ∧ tm.get 0 = some (termsV l) ∧ tm.get 1 = some (termsV l)) → EndsAs (fun tm h => h = H.empty ∧ tm.get 0 = some (termsV l) ∧ tm.get 1 = some (termsV l)) (fun _ _ => False) (fun _ _ _ => False) (runCode TT (evK TT C (l.length + 1 + 1)) ⟨69, none⟩ (piece Tryz.f69 [true,false]) ⟨tm, [], h, none⟩) := by
    rintro tm h ⟨rfl, t0, t1⟩
    simp [piece, sel, sub, Tryz.f69, t0, t1]
  have p2 : ∀ tm h, (h = H.empty ∧ tm.get 0 = some (termsV l) ∧ tm.get 1 = some (termsV l)) → EndsAs (fun tm h => h = H.empty ∧ tm.get 0 = some (termsV l) ∧ tm.get 1 = some (termsV l) ∧ tm.get 5 = some (i64 (0 : Nat))) (fun _ _ => False) (fun _ _ _ => False) (runCode TT (evK TT C (l.length + 1 + 1)) ⟨69, none⟩ (piece Tryz.f69 [true,true,false,false]) ⟨tm, [], h, none⟩) := by
    rintro tm h ⟨rfl, t0, t1⟩
    simp [piece, sel, sub, Tryz.f69, t0, t1]
  refine ends_seqC (p0.mono (fun _ _ q => q) (fun _ _ q => q.elim) (fun _ _ _ q => q)) fun tm h q => ends_seqC ((p1 tm h q).mono (fun _ _ q => q) (fun _ _ q => q.elim) (fun _ _ _ q => q)) fun tm h q =>
    ends_seqC (N' := fun _ _ => True) (ends_seqC ((p2 tm h q).mono (fun _ _ q => q) (fun _ _ q => q.elim) (fun _ _ _ q => q)) fun tm h q => ?_) fun tm h _ => by simp [piece, sel, sub, Tryz.f69]
  obtain ⟨hb, t0, t1, t5⟩ := q
  refine ends_loop 0 (fun j tm h => ∃ i : Nat, j = l.length - i ∧ i ≤ l.length ∧ h = H.empty ∧ tm.get 0 = some (termsV l) ∧ tm.get 1 = some (termsV l) ∧ tm.get 5 = some (i64 (i : Nat))) l.length ⟨0, by omega, by omega, hb, t0, t1, t5⟩ (by omega) ?_
  rintro j tm h m ⟨i, rfl, hi, hb, t0, t1, t5⟩ -
  by_cases hlt : i < l.length
  · exact (f69_iter hb t0 t1 t5 (eh20 m) hlt (by omega)).mono (fun tm' h' q => ⟨_, by omega, i + 1, rfl, hlt, q⟩) (fun _ _ q => q.elim) (fun _ _ _ q => q.elim)
  · exact (f69_end hb t0 t1 t5 (by omega)).mono (fun _ _ q => q.elim) (fun _ _ q => q.elim) (fun _ _ _ q => ⟨q, trivial⟩)

end Go.Proofs.YtkdfgoimgcegfaaGreatDoor
