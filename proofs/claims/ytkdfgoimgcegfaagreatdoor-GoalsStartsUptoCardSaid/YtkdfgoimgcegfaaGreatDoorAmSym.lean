/- Equations by which a run is worked out on values that are not known: for simp. -/
import Derived.Test.YtkdfgoimgcegfaaGreatDoorAmCon
set_option linter.unusedSectionVars false
set_option linter.unusedSimpArgs false
set_option linter.unusedVariables false
namespace Go.Am
open Go
variable {T : Tab} {ev : Task → Ans} {fr : Fr}

namespace Sym
/-! Control -/
@[simp] theorem run_skip (s : S) : runCode T ev fr .skip s = .code .normal s := rfl
@[simp ↓] theorem run_region (id : Nat) (ops : Array Oper) (d : Bool) (s : S) : runCode T ev fr (.region id ops d) s = runRegion T ev fr ops d s := rfl
@[simp ↓] theorem run_seq (a b : Code) (s : S) : runCode T ev fr (.seq a b) s = seqK (runCode T ev fr b) (runCode T ev fr a s) := rfl
@[simp ↓] theorem run_cond (x : Operand) (a b : Code) (s : S) : runCode T ev fr (.cond x a b) s = condK (runCode T ev fr a) (runCode T ev fr b) s (opv s.tm x) := rfl
@[simp ↓] theorem run_block (id : Nat) (b : Code) (s : S) : runCode T ev fr (.block id b) s = blockK id (runCode T ev fr b s) := rfl
theorem run_loop (b : Code) (s : S) : runCode T ev fr (.loop b) s = loopK ev fr b (runCode T ev fr b s) := rfl
@[simp] theorem run_rangeFunc (f : Operand) (ps : Array Tmp) (a b : Code) (s : S) : runCode T ev fr (.rangeFunc f ps a b) s = rangeFuncK ev fr ps a b s (opv s.tm f) := rfl
@[simp] theorem run_exit (id : Nat) (s : S) : runCode T ev fr (.exit id) s = .code (.exit id) s := rfl
@[simp ↓] theorem run_scope (b : Code) (s : S) : runCode T ev fr (.scope b) s = runCode T ev fr b s := rfl
@[simp] theorem run_label (l : Nat) (s : S) : runCode T ev fr (.label l) s = .code .normal s := rfl
@[simp] theorem run_ret (s : S) : runCode T ev fr .ret s = .code .ret s := rfl
@[simp] theorem seqK_normal (k : S → Ans) (s : S) : seqK k (.code .normal s) = k s := rfl
@[simp] theorem seqK_exit (k : S → Ans) (s : S) (i : Nat) : seqK k (.code (.exit i) s) = .code (.exit i) s := rfl
@[simp] theorem seqK_ret (k : S → Ans) (s : S) : seqK k (.code .ret s) = .code .ret s := rfl
@[simp] theorem seqK_panic (k : S → Ans) (s : S) (c : List PanicEntry) : seqK k (.code (.panic c) s) = .code (.panic c) s := rfl
theorem condK_if (a b : S → Ans) (s : S) (c : Bool) : condK a b s (some (.bool c)) = if c = true then a s else b s := by cases c <;> rfl
@[simp] theorem condK_true (a b : S → Ans) (s : S) : condK a b s (some (.bool true)) = a s := rfl
@[simp] theorem condK_false (a b : S → Ans) (s : S) : condK a b s (some (.bool false)) = b s := rfl
@[simp] theorem blockK_normal (id : Nat) (s : S) : blockK id (.code .normal s) = .code .normal s := rfl
@[simp] theorem blockK_exit (id i : Nat) (s : S) : blockK id (.code (.exit i) s) = cond (Nat.beq i id) (.code .normal s) (.code (.exit i) s) := rfl
@[simp] theorem blockK_ret (id : Nat) (s : S) : blockK id (.code .ret s) = .code .ret s := rfl
@[simp] theorem blockK_panic (id : Nat) (s : S) (c : List PanicEntry) : blockK id (.code (.panic c) s) = .code (.panic c) s := rfl
@[simp] theorem loopK_normal (b : Code) (s : S) : loopK ev fr b (.code .normal s) = ev (.loop fr b s) := rfl
@[simp] theorem loopK_exit (b : Code) (s : S) (i : Nat) : loopK ev fr b (.code (.exit i) s) = .code (.exit i) s := rfl
@[simp] theorem loopK_ret (b : Code) (s : S) : loopK ev fr b (.code .ret s) = .code .ret s := rfl
@[simp] theorem loopK_panic (b : Code) (s : S) (c : List PanicEntry) : loopK ev fr b (.code (.panic c) s) = .code (.panic c) s := rfl
/-! Regions -/
@[simp ↓] theorem reg_seq (ops : Array Oper) (s : S) : runRegion T ev fr ops false s = runOps T ev fr ops ops.toList s := rfl
@[simp] theorem ops_nil (all : Array Oper) (s : S) : runOps T ev fr all [] s = .code .normal s := rfl
@[simp ↓] theorem ops_cons (all : Array Oper) (o : Oper) (l : List Oper) (s : S) : runOps T ev fr all (o :: l) s = opStep T ev fr all o (runOps T ev fr all l) s := rfl
@[simp ↓] theorem step_all (all : Array Oper) (dst : Option Tmp) (op : Op) (ty : TypeId) (pos : String) (after : Array Edge) (k : S → Ans) (tm : Tr Value) (df : List Deferred) (h : H) (ab : Option (List PanicEntry)) :
    opStep T ev fr all ⟨dst, op, ty, pos, after, none⟩ k ⟨tm, df, h, ab⟩ = opRes ev fr.round dst k tm df h ab (execOp T tm ty h op) := rfl
/-- Under a guard. -/
noncomputable def guardB (ev : Task → Ans) (round : Option Nat) (dst : Option Tmp) (k : S → Ans) (tm : Tr Value) (df : List Deferred) (h : H) (ab : Option (List PanicEntry)) (r : Out) (b : Bool) : Ans :=
  cond b (opRes ev round dst k tm df h ab r) (k ⟨putT tm undef dst, df, h, ab⟩)
noncomputable def guardOp (ev : Task → Ans) (round : Option Nat) (dst : Option Tmp) (k : S → Ans) (tm : Tr Value) (df : List Deferred) (h : H) (ab : Option (List PanicEntry)) (r : Out) : Option Bool → Ans
  | some b => guardB ev round dst k tm df h ab r b
  | none => .fail
noncomputable def guardCall (dst : Option Tmp) (k : S → Ans) (tm : Tr Value) (df : List Deferred) (h : H) (ab : Option (List PanicEntry)) (b : Bool) (a : Ans) : Ans :=
  cond b (opCall dst k tm df ab a) (k ⟨putT tm undef dst, df, h, ab⟩)
@[simp ↓] theorem step_if (all : Array Oper) (dst : Option Tmp) (op : Op) (ty : TypeId) (pos : String) (after : Array Edge) (g : Nat × Bool) (k : S → Ans) (tm : Tr Value) (df : List Deferred) (h : H) (ab : Option (List PanicEntry)) :
    opStep T ev fr all ⟨dst, op, ty, pos, after, some g⟩ k ⟨tm, df, h, ab⟩ = guardOp ev fr.round dst k tm df h ab (execOp T tm ty h op) (boolIs g.2 (yieldedT tm all.toList[g.1]?)) := by
  show onO .fail (fun b => onB (k ⟨putT tm undef dst, df, h, ab⟩) (opRes ev fr.round dst k tm df h ab (execOp T tm ty h op)) b) (boolIs g.2 (yieldedT tm all.toList[g.1]?)) = _
  cases boolIs g.2 (yieldedT tm all.toList[g.1]?) with
  | none => rfl
  | some b => cases b <;> rfl
@[congr] theorem guardOp_congr {round : Option Nat} {dst : Option Tmp} {k : S → Ans} {tm : Tr Value} {df : List Deferred} {h : H} {ab : Option (List PanicEntry)} {r : Out} {o o' : Option Bool} (ho : o = o') :
    guardOp ev round dst k tm df h ab r o = guardOp ev round dst k tm df h ab r o' := by rw [ho]
@[simp] theorem guardOp_some (round : Option Nat) (dst : Option Tmp) (k : S → Ans) (tm : Tr Value) (df : List Deferred) (h : H) (ab : Option (List PanicEntry)) (r : Out) (b : Bool) : guardOp ev round dst k tm df h ab r (some b) = guardB ev round dst k tm df h ab r b := rfl
@[congr] theorem guardB_congr {round : Option Nat} {dst : Option Tmp} {k : S → Ans} {tm : Tr Value} {df : List Deferred} {h : H} {ab : Option (List PanicEntry)} {r r' : Out} {b : Bool} (hr : b = true → r = r') : guardB ev round dst k tm df h ab r b = guardB ev round dst k tm df h ab r' b := by
  cases b <;> first | rfl | (rw [hr rfl])
@[congr] theorem guardCall_congr {dst : Option Tmp} {k : S → Ans} {tm : Tr Value} {df : List Deferred} {h : H} {ab : Option (List PanicEntry)} {a a' : Ans} {b : Bool} (ha : b = true → a = a') : guardCall dst k tm df h ab b a = guardCall dst k tm df h ab b a' := by
  cases b <;> first | rfl | (rw [ha rfl])
@[congr 1100] theorem guardB_congr2 {round : Option Nat} {dst : Option Tmp} {k : S → Ans} {tm : Tr Value} {df : List Deferred} {h : H} {ab : Option (List PanicEntry)} {r r' : Out} {c d : Bool} (hr : c = true → d = true → r = r') : guardB ev round dst k tm df h ab r (c && d) = guardB ev round dst k tm df h ab r' (c && d) := by
  cases c <;> cases d <;> first | rfl | (rw [hr rfl rfl])
@[congr 1100] theorem guardCall_congr2 {dst : Option Tmp} {k : S → Ans} {tm : Tr Value} {df : List Deferred} {h : H} {ab : Option (List PanicEntry)} {a a' : Ans} {c d : Bool} (ha : c = true → d = true → a = a') : guardCall dst k tm df h ab (c && d) a = guardCall dst k tm df h ab (c && d) a' := by
  cases c <;> cases d <;> first | rfl | (rw [ha rfl rfl])
@[congr 1200] theorem guardB_congr3 {round : Option Nat} {dst : Option Tmp} {k : S → Ans} {tm : Tr Value} {df : List Deferred} {h : H} {ab : Option (List PanicEntry)} {r r' : Out} {c d e : Bool} (hr : c = true → d = true → e = true → r = r') : guardB ev round dst k tm df h ab r (c && d && e) = guardB ev round dst k tm df h ab r' (c && d && e) := by
  cases c <;> cases d <;> cases e <;> first | rfl | (rw [hr rfl rfl rfl])
@[congr 1200] theorem guardCall_congr3 {dst : Option Tmp} {k : S → Ans} {tm : Tr Value} {df : List Deferred} {h : H} {ab : Option (List PanicEntry)} {a a' : Ans} {c d e : Bool} (ha : c = true → d = true → e = true → a = a') : guardCall dst k tm df h ab (c && d && e) a = guardCall dst k tm df h ab (c && d && e) a' := by
  cases c <;> cases d <;> cases e <;> first | rfl | (rw [ha rfl rfl rfl])
@[congr 1200] theorem guardB_congr4 {round : Option Nat} {dst : Option Tmp} {k : S → Ans} {tm : Tr Value} {df : List Deferred} {h : H} {ab : Option (List PanicEntry)} {r r' : Out} {c d e : Bool} (hr : c = true → d = true → e = true → r = r') : guardB ev round dst k tm df h ab r (c && (d && e)) = guardB ev round dst k tm df h ab r' (c && (d && e)) := by
  cases c <;> cases d <;> cases e <;> first | rfl | (rw [hr rfl rfl rfl])
@[congr 1200] theorem guardCall_congr4 {dst : Option Tmp} {k : S → Ans} {tm : Tr Value} {df : List Deferred} {h : H} {ab : Option (List PanicEntry)} {a a' : Ans} {c d e : Bool} (ha : c = true → d = true → e = true → a = a') : guardCall dst k tm df h ab (c && (d && e)) a = guardCall dst k tm df h ab (c && (d && e)) a' := by
  cases c <;> cases d <;> cases e <;> first | rfl | (rw [ha rfl rfl rfl])
@[congr 1300] theorem guardB_congr5 {round : Option Nat} {dst : Option Tmp} {k : S → Ans} {tm : Tr Value} {df : List Deferred} {h : H} {ab : Option (List PanicEntry)} {r r' : Out} {c d e g : Bool} (hr : c = true → d = true → e = true → g = true → r = r') : guardB ev round dst k tm df h ab r (c && d && e && g) = guardB ev round dst k tm df h ab r' (c && d && e && g) := by
  cases c <;> cases d <;> cases e <;> cases g <;> first | rfl | (rw [hr rfl rfl rfl rfl])
@[congr 1300] theorem guardCall_congr5 {dst : Option Tmp} {k : S → Ans} {tm : Tr Value} {df : List Deferred} {h : H} {ab : Option (List PanicEntry)} {a a' : Ans} {c d e g : Bool} (ha : c = true → d = true → e = true → g = true → a = a') : guardCall dst k tm df h ab (c && d && e && g) a = guardCall dst k tm df h ab (c && d && e && g) a' := by
  cases c <;> cases d <;> cases e <;> cases g <;> first | rfl | (rw [ha rfl rfl rfl rfl])
@[congr 1300] theorem guardB_congr6 {round : Option Nat} {dst : Option Tmp} {k : S → Ans} {tm : Tr Value} {df : List Deferred} {h : H} {ab : Option (List PanicEntry)} {r r' : Out} {c d e g : Bool} (hr : c = true → d = true → e = true → g = true → r = r') : guardB ev round dst k tm df h ab r (c && (d && (e && g))) = guardB ev round dst k tm df h ab r' (c && (d && (e && g))) := by
  cases c <;> cases d <;> cases e <;> cases g <;> first | rfl | (rw [hr rfl rfl rfl rfl])
@[congr 1300] theorem guardCall_congr6 {dst : Option Tmp} {k : S → Ans} {tm : Tr Value} {df : List Deferred} {h : H} {ab : Option (List PanicEntry)} {a a' : Ans} {c d e g : Bool} (ha : c = true → d = true → e = true → g = true → a = a') : guardCall dst k tm df h ab (c && (d && (e && g))) a = guardCall dst k tm df h ab (c && (d && (e && g))) a' := by
  cases c <;> cases d <;> cases e <;> cases g <;> first | rfl | (rw [ha rfl rfl rfl rfl])
@[simp] theorem guardB_true (round : Option Nat) (dst : Option Tmp) (k : S → Ans) (tm : Tr Value) (df : List Deferred) (h : H) (ab : Option (List PanicEntry)) (r : Out) : guardB ev round dst k tm df h ab r true = opRes ev round dst k tm df h ab r := rfl
@[simp] theorem guardB_false (round : Option Nat) (dst : Option Tmp) (k : S → Ans) (tm : Tr Value) (df : List Deferred) (h : H) (ab : Option (List PanicEntry)) (r : Out) : guardB ev round dst k tm df h ab r false = k ⟨putT tm undef dst, df, h, ab⟩ := rfl
@[simp] theorem guardB_val (round : Option Nat) (d : Tmp) (k : S → Ans) (tm : Tr Value) (df : List Deferred) (h : H) (ab : Option (List PanicEntry)) (v : Value) (b : Bool) :
    guardB ev round (some d) k tm df h ab (.of (.val v h)) b = k ⟨tm.set d (onB undef v b), df, h, ab⟩ := by cases b <;> rfl
@[simp] theorem guardB_call (round : Option Nat) (dst : Option Tmp) (k : S → Ans) (tm : Tr Value) (df : List Deferred) (h : H) (ab : Option (List PanicEntry)) (f : Value) (args : List Value) (b : Bool) :
    guardB ev round dst k tm df h ab (.call f args) b = guardCall dst k tm df h ab b (ev (.call f args h none)) := by cases b <;> rfl
@[simp] theorem guardCall_ret (d : Tmp) (k : S → Ans) (tm : Tr Value) (df : List Deferred) (h : H) (ab ab' : Option (List PanicEntry)) (v : Value) (b : Bool) :
    guardCall (some d) k tm df h ab b (.ret v h ab') = k ⟨tm.set d (onB undef v b), df, h, ab⟩ := by cases b <;> rfl
section
variable {β : Type} (u x y : β) (b c : Bool)
@[simp] theorem onB_else : onB (onB u x (!b)) y b = onB x y b := by cases b <;> rfl
@[simp] theorem onB_elseC {d : Bool} (h : d = !b) : onB (onB u x d) y b = onB x y b := by subst h; cases b <;> rfl
@[simp] theorem onB_then : onB x (onB u y b) b = onB x y b := by cases b <;> rfl
@[simp] theorem onB_elseT : onB (onB u x b) y b = onB u y b := by cases b <;> rfl
@[simp] theorem onB_else2 : onB (onB u x (!b && c)) y b = onB (onB u x c) y b := by cases b <;> cases c <;> rfl
@[simp] theorem onB_then2 : onB x (onB u y (b && c)) b = onB x (onB u y c) b := by cases b <;> cases c <;> rfl
end
@[simp] theorem boolIs_guarded (w x b : Bool) : boolIs w (some (onB undef (Value.bool x) b)) = some (b && (x == w)) := by cases b <;> rfl
@[simp] theorem onB_set (tm : Tr Value) (d : Nat) (v w : Value) (b : Bool) : onB (tm.set d v) (tm.set d w) b = tm.set d (onB v w b) := by cases b <;> rfl
@[simp] theorem onB_val (v w : Value) (h : H) (b : Bool) : onB (Res.val v h) (Res.val w h) b = .val (onB v w b) h := by cases b <;> rfl
@[simp] theorem onB_boolV (x y b : Bool) : onB (Value.bool x) (Value.bool y) b = .bool (cond b y x) := by cases b <;> rfl
@[simp] theorem onB_same {β : Type} (x : β) (b : Bool) : onB x x b = x := by cases b <;> rfl
@[simp] theorem beq_trueB (b : Bool) : (b == true) = b := by cases b <;> rfl
@[simp] theorem beq_falseB (b : Bool) : (b == false) = !b := by cases b <;> rfl
@[simp] theorem yielded_some (tm : Tr Value) (d : Tmp) (op : Op) (ty : TypeId) (pos : String) (after : Array Edge) (g : Option (Nat × Bool)) : yieldedT tm (some ⟨some d, op, ty, pos, after, g⟩) = tm.get d := rfl
@[simp] theorem boolIs_some (w b : Bool) : boolIs w (some (.bool b)) = some (b == w) := rfl
@[simp] theorem onO_n {α β : Type} (n : β) (s : α → β) : onO n s none = n := rfl
@[simp] theorem onO_s {α β : Type} (n : β) (s : α → β) (a : α) : onO n s (some a) = s a := rfl
@[simp] theorem onB_true {β : Type} (f t : β) : onB f t true = t := rfl
@[simp] theorem onB_false {β : Type} (f t : β) : onB f t false = f := rfl
@[simp] theorem put_none (tm : Tr Value) (v : Value) : putT tm v none = tm := rfl
@[simp] theorem put_some (tm : Tr Value) (v : Value) (d : Tmp) : putT tm v (some d) = tm.set d v := rfl
@[simp] theorem res_val (r : Option Nat) (dst : Option Tmp) (k : S → Ans) (tm : Tr Value) (df : List Deferred) (h0 : H) (ab : Option (List PanicEntry)) (v : Value) (h : H) :
    opRes ev r dst k tm df h0 ab (.of (.val v h)) = k ⟨putT tm v dst, df, h, ab⟩ := rfl
@[simp] theorem res_pan (r : Option Nat) (dst : Option Tmp) (k : S → Ans) (tm : Tr Value) (df : List Deferred) (h : H) (ab : Option (List PanicEntry)) (v : Value) :
    opRes ev r dst k tm df h ab (.pan v) = .code (.panic [{ v, recovered := false }]) ⟨tm, df, h, ab⟩ := rfl
@[simp] theorem res_call (r : Option Nat) (dst : Option Tmp) (k : S → Ans) (tm : Tr Value) (df : List Deferred) (h : H) (ab : Option (List PanicEntry)) (f : Value) (args : List Value) :
    opRes ev r dst k tm df h ab (.call f args) = opCall dst k tm df ab (ev (.call f args h none)) := rfl
@[simp] theorem call_ret (dst : Option Tmp) (k : S → Ans) (tm : Tr Value) (df : List Deferred) (ab : Option (List PanicEntry)) (v : Value) (h : H) (ab' : Option (List PanicEntry)) :
    opCall dst k tm df ab (.ret v h ab') = k ⟨putT tm v dst, df, h, ab⟩ := rfl
@[simp] theorem call_pan (dst : Option Tmp) (k : S → Ans) (tm : Tr Value) (df : List Deferred) (ab : Option (List PanicEntry)) (c : List PanicEntry) (h : H) (ab' : Option (List PanicEntry)) :
    opCall dst k tm df ab (.pan c h ab') = .code (.panic c) ⟨tm, df, h, ab⟩ := rfl
/-! Slots -/
@[simp] theorem get_nil (k : Nat) : (Tr.nil : Tr Value).get k = none := rfl
@[simp] theorem get_set (t : Tr Value) (k j : Nat) (x : Value) : (t.set k x).get j = if j = k then some x else t.get j := Tr.get_set t k j x
@[simp] theorem opv_tmp (tm : Tr Value) (t : Tmp) : opv tm (.tmp t) = tm.get t := rfl
@[simp] theorem opv_const (tm : Tr Value) (v : Value) : opv tm (.const v) = some v := rfl
@[simp] theorem opv_func (tm : Tr Value) (f : FuncId) : opv tm (.func f) = some (.func (.func f) #[] #[]) := rfl
@[simp] theorem ov_nil (tm : Tr Value) : opvs tm [] = some [] := rfl
@[simp] theorem ov_cons (tm : Tr Value) (x : Operand) (l : List Operand) : opvs tm (x :: l) = match opv tm x with | some v => (match opvs tm l with | some r => some (v :: r) | none => none) | none => none := rfl
@[simp] theorem parts_nil (tm : Tr Value) : opvParts tm [] = some [] := rfl
@[simp] theorem parts_cons (tm : Tr Value) (i : Nat) (x : Operand) (l : List (Nat × Operand)) : opvParts tm ((i, x) :: l) = match opv tm x with | some v => (match opvParts tm l with | some r => some ((i, v) :: r) | none => none) | none => none := rfl
@[simp] theorem init_nil (k : Nat) (t : Tr Value) : initT [] k t = t := rfl
@[simp] theorem init_cons (v : Value) (l : List Value) (k : Nat) (t : Tr Value) : initT (v :: l) k t = initT l (k + 1) (t.set k v) := rfl
/-! Memory -/
@[simp] theorem h_new_get (h : H) (o : AObj) (j : Nat) : (h.new o).get j = if j = h.next then some o else h.get j := by
  rw [new_eq]; exact Tr.get_set _ _ _ _
@[simp] theorem h_new_next (h : H) (o : AObj) : (h.new o).next = h.next + 1 := new_next h o
@[simp] theorem h_new_base (h : H) (o : AObj) : (h.new o).base = h.base := by rw [new_eq]
@[simp] theorem h_put_get (h : H) (b j : Nat) (o : AObj) : (h.put b o).get j = if j = b then some o else h.get j := by
  rw [H.put, putM_eq]
  show ((h.mark b).m.set b o).get j = _
  rw [Tr.get_set]
  by_cases e : j = b
  · rw [if_pos e, if_pos e]
  · rw [if_neg e, if_neg e]; exact mark_get h b j
@[simp] theorem h_put_next (h : H) (b : Nat) (o : AObj) : (h.put b o).next = h.next := put_next h b o
@[simp] theorem h_put_base (h : H) (b : Nat) (o : AObj) : (h.put b o).base = h.base := put_base h b o
@[simp] theorem h_touch_get (h : H) (b j : Nat) : (h.touch b).get j = h.get j := touch_get h b j
@[simp] theorem h_touch_next (h : H) (b : Nat) : (h.touch b).next = h.next := touch_next h b
@[simp] theorem h_touch_base (h : H) (b : Nat) : (h.touch b).base = h.base := (touch_le h b).base
@[simp] theorem h_empty_get (j : Nat) : H.empty.get j = none := rfl
@[simp] theorem h_empty_next : H.empty.next = 0 := rfl
@[simp] theorem h_empty_base : H.empty.base = 0 := rfl
end Sym
end Go.Am
