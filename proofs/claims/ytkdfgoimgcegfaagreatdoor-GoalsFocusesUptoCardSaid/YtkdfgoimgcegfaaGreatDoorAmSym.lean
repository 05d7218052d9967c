/- Equations by which a run is worked out on values that are not known: for simp. -/
import Derived.Test.YtkdfgoimgcegfaaGreatDoorAmCon
set_option linter.unusedSectionVars false
set_option linter.unusedSimpArgs false
set_option linter.unusedVariables false
namespace Go.Am
open Go
variable {T : Tab} {ev : Task → Ans} {fr : Fr}

namespace Sym
/-! Control -/
@[simp] theorem run_skip (s : S) : runCode T ev fr .skip s = .code .normal s := rfl
@[simp ↓] theorem run_region (id : Nat) (ops : Array Oper) (d : Bool) (s : S) : runCode T ev fr (.region id ops d) s = runRegion T ev fr ops d s := rfl
@[simp ↓] theorem run_seq (a b : Code) (s : S) : runCode T ev fr (.seq a b) s = seqK (runCode T ev fr b) (runCode T ev fr a s) := rfl
@[simp ↓] theorem run_cond (x : Operand) (a b : Code) (s : S) : runCode T ev fr (.cond x a b) s = condK (runCode T ev fr a) (runCode T ev fr b) s (opv s.tm x) := rfl
@[simp ↓] theorem run_block (id : Nat) (b : Code) (s : S) : runCode T ev fr (.block id b) s = blockK id (runCode T ev fr b s) := rfl
theorem run_loop (b : Code) (s : S) : runCode T ev fr (.loop b) s = loopK ev fr b (runCode T ev fr b s) := rfl
@[simp] theorem run_rangeFunc (f : Operand) (ps : Array Tmp) (a b : Code) (s : S) : runCode T ev fr (.rangeFunc f ps a b) s = rangeFuncK ev fr ps a b s (opv s.tm f) := rfl
@[simp] theorem run_exit (id : Nat) (s : S) : runCode T ev fr (.exit id) s = .code (.exit id) s := rfl
@[simp ↓] theorem run_scope (b : Code) (s : S) : runCode T ev fr (.scope b) s = runCode T ev fr b s := rfl
@[simp] theorem run_label (l : Nat) (s : S) : runCode T ev fr (.label l) s = .code .normal s := rfl
@[simp] theorem run_ret (s : S) : runCode T ev fr .ret s = .code .ret s := rfl
@[simp] theorem seqK_normal (k : S → Ans) (s : S) : seqK k (.code .normal s) = k s := rfl
@[simp] theorem seqK_exit (k : S → Ans) (s : S) (i : Nat) : seqK k (.code (.exit i) s) = .code (.exit i) s := rfl
@[simp] theorem seqK_ret (k : S → Ans) (s : S) : seqK k (.code .ret s) = .code .ret s := rfl
@[simp] theorem seqK_panic (k : S → Ans) (s : S) (c : List PanicEntry) : seqK k (.code (.panic c) s) = .code (.panic c) s := rfl
theorem condK_if (a b : S → Ans) (s : S) (c : Bool) : condK a b s (some (.bool c)) = if c = true then a s else b s := by cases c <;> rfl
@[simp] theorem condK_true (a b : S → Ans) (s : S) : condK a b s (some (.bool true)) = a s := rfl
@[simp] theorem condK_false (a b : S → Ans) (s : S) : condK a b s (some (.bool false)) = b s := rfl
@[simp] theorem blockK_normal (id : Nat) (s : S) : blockK id (.code .normal s) = .code .normal s := rfl
@[simp] theorem blockK_exit (id i : Nat) (s : S) : blockK id (.code (.exit i) s) = cond (Nat.beq i id) (.code .normal s) (.code (.exit i) s) := rfl
@[simp] theorem blockK_ret (id : Nat) (s : S) : blockK id (.code .ret s) = .code .ret s := rfl
@[simp] theorem blockK_panic (id : Nat) (s : S) (c : List PanicEntry) : blockK id (.code (.panic c) s) = .code (.panic c) s := rfl
@[simp] theorem loopK_normal (b : Code) (s : S) : loopK ev fr b (.code .normal s) = ev (.loop fr b s) := rfl
@[simp] theorem loopK_exit (b : Code) (s : S) (i : Nat) : loopK ev fr b (.code (.exit i) s) = .code (.exit i) s := rfl
@[simp] theorem loopK_ret (b : Code) (s : S) : loopK ev fr b (.code .ret s) = .code .ret s := rfl
@[simp] theorem loopK_panic (b : Code) (s : S) (c : List PanicEntry) : loopK ev fr b (.code (.panic c) s) = .code (.panic c) s := rfl
/-! Regions -/
@[simp ↓] theorem reg_seq (ops : Array Oper) (s : S) : runRegion T ev fr ops false s = runOps T ev fr ops ops.toList s := rfl
@[simp] theorem ops_nil (all : Array Oper) (s : S) : runOps T ev fr all [] s = .code .normal s := rfl
@[simp ↓] theorem ops_cons (all : Array Oper) (o : Oper) (l : List Oper) (s : S) : runOps T ev fr all (o :: l) s = opStep T ev fr all o (runOps T ev fr all l) s := rfl
@[simp ↓] theorem step_all (all : Array Oper) (dst : Option Tmp) (op : Op) (ty : TypeId) (pos : String) (after : Array Edge) (k : S → Ans) (tm : Tr Value) (df : List Deferred) (h : H) (ab : Option (List PanicEntry)) :
    opStep T ev fr all ⟨dst, op, ty, pos, after, none⟩ k ⟨tm, df, h, ab⟩ = opRes ev fr.round dst k tm df h ab (execOp T tm ty h op) := rfl
/-- Under a guard. -/
noncomputable def guardB (ev : Task → Ans) (round : Option Nat) (dst : Option Tmp) (k : S → Ans) (tm : Tr Value) (df : List Deferred) (h : H) (ab : Option (List PanicEntry)) (r : Out) (b : Bool) : Ans :=
  cond b (opRes ev round dst k tm df h ab r) (k ⟨putT tm undef dst, df, h, ab⟩)
noncomputable def guardOp (ev : Task → Ans) (round : Option Nat) (dst : Option Tmp) (k : S → Ans) (tm : Tr Value) (df : List Deferred) (h : H) (ab : Option (List PanicEntry)) (r : Out) : Option Bool → Ans
  | some b => guardB ev round dst k tm df h ab r b
  | none => .fail
noncomputable def guardCall (dst : Option Tmp) (k : S → Ans) (tm : Tr Value) (df : List Deferred) (h : H) (ab : Option (List PanicEntry)) (b : Bool) (a : Ans) : Ans :=
  cond b (opCall dst k tm df ab a) (k ⟨putT tm undef dst, df, h, ab⟩)
@[simp ↓] theorem step_if (all : Array Oper) (dst : Option Tmp) (op : Op) (ty : TypeId) (pos : String) (after : Array Edge) (g : Nat × Bool) (k : S → Ans) (tm : Tr Value) (df : List Deferred) (h : H) (ab : Option (List PanicEntry)) :
    opStep T ev fr all ⟨dst, op, ty, pos, after, some g⟩ k ⟨tm, df, h, ab⟩ = guardOp ev fr.round dst k tm df h ab (execOp T tm ty h op) (boolIs g.2 (yieldedT tm all.toList[g.1]?)) := by
  show onO .fail (fun b => onB (k ⟨putT tm undef dst, df, h, ab⟩) (opRes ev fr.round dst k tm df h ab (execOp T tm ty h op)) b) (boolIs g.2 (yieldedT tm all.toList[g.1]?)) = _
  cases boolIs g.2 (yieldedT tm all.toList[g.1]?) with
  | none => rfl
  | some b => cases b <;> rfl
@[congr] theorem guardOp_congr {round : Option Nat} {dst : Option Tmp} {k : S → Ans} {tm : Tr Value} {df : List Deferred} {h : H} {ab : Option (List PanicEntry)} {r : Out} {o o' : Option Bool} (ho : o = o') :
    guardOp ev round dst k tm df h ab r o = guardOp ev round dst k tm df h ab r o' := by rw [ho]
@[simp] theorem guardOp_some (round : Option Nat) (dst : Option Tmp) (k : S → Ans) (tm : Tr Value) (df : List Deferred) (h : H) (ab : Option (List PanicEntry)) (r : Out) (b : Bool) : guardOp ev round dst k tm df h ab r (some b) = guardB ev round dst k tm df h ab r b := rfl
@[congr] theorem guardB_congr {round : Option Nat} {dst : Option Tmp} {k : S → Ans} {tm : Tr Value} {df : List Deferred} {h : H} {ab : Option (List PanicEntry)} {r r' : Out} {b : Bool} (hr : b = true → r = r') : guardB ev round dst k tm df h ab r b = guardB ev round dst k tm df h ab r' b := by
  cases b <;> first | rfl | (rw [hr rfl])
@[congr] theorem guardCall_congr {dst : Option Tmp} {k : S → Ans} {tm : Tr Value} {df : List Deferred} {h : H} {ab : Option (List PanicEntry)} {a a' : Ans} {b : Bool} (ha : b = true → a = a') : guardCall dst k tm df h ab b a = guardCall dst k tm df h ab b a' := by
  cases b <;> first | rfl | (rw [ha rfl])
@[congr 1100] theorem guardB_congr2 {round : Option Nat} {dst : Option Tmp} {k : S → Ans} {tm : Tr Value} {df : List Deferred} {h : H} {ab : Option (List PanicEntry)} {r r' : Out} {c d : Bool} (hr : c = true → d = true → r = r') : guardB ev round dst k tm df h ab r (c && d) = guardB ev round dst k tm df h ab r' (c && d) := by
  cases c <;> cases d <;> first | rfl | (rw [hr rfl rfl])
@[congr 1100] theorem guardCall_congr2 {dst : Option Tmp} {k : S → Ans} {tm : Tr Value} {df : List Deferred} {h : H} {ab : Option (List PanicEntry)} {a a' : Ans} {c d : Bool} (ha : c = true → d = true → a = a') : guardCall dst k tm df h ab (c && d) a = guardCall dst k tm df h ab (c && d) a' := by
  cases c <;> cases d <;> first | rfl | (rw [ha rfl rfl])
@[congr 1200] theorem guardB_congr3 {round : Option Nat} {dst : Option Tmp} {k : S → Ans} {tm : Tr Value} {df : List Deferred} {h : H} {ab : Option (List PanicEntry)} {r r' : Out} {c d e : Bool} (hr : c = true → d = true → e = true → r = r') : guardB ev round dst k tm df h ab r (c && d && e) = guardB ev round dst k tm df h ab r' (c && d && e) := by
  cases c <;> cases d <;> cases e <;> first | rfl | (rw [hr rfl rfl rfl])
@[congr 1200] theorem guardCall_congr3 {dst : Option Tmp} {k : S → Ans} {tm : Tr Value} {df : List Deferred} {h : H} {ab : Option (List PanicEntry)} {a a' : Ans} {c d e : Bool} (ha : c = true → d = true → e = true → a = a') : guardCall dst k tm df h ab (c && d && e) a = guardCall dst k tm df h ab (c && d && e) a' := by
  cases c <;> cases d <;> cases e <;> first | rfl | (rw [ha rfl rfl rfl])
@[congr 1200] theorem guardB_congr4 {round : Option Nat} {dst : Option Tmp} {k : S → Ans} {tm : Tr Value} {df : List Deferred} {h : H} {ab : Option (List PanicEntry)} {r r' : Out} {c d e : Bool} (hr : c = true → d = true → e = true → r = r') : guardB ev round dst k tm df h ab r (c && (d && e)) = guardB ev round dst k tm df h ab r' (c && (d && e)) := by
  cases c <;> cases d <;> cases e <;> first | rfl | (rw [hr rfl rfl rfl])
@[congr 1200] theorem guardCall_congr4 {dst : Option Tmp} {k : S → Ans} {tm : Tr Value} {df : List Deferred} {h : H} {ab : Option (List PanicEntry)} {a a' : Ans} {c d e : Bool} (ha : c = true → d = true → e = true → a = a') : guardCall dst k tm df h ab (c && (d && e)) a = guardCall dst k tm df h ab (c && (d && e)) a' := by
  cases c <;> cases d <;> cases e <;> first | rfl | (rw [ha rfl rfl rfl])
@[congr 1300] theorem guardB_congr5 {round : Option Nat} {dst : Option Tmp} {k : S → Ans} {tm : Tr Value} {df : List Deferred} {h : H} {ab : Option (List PanicEntry)} {r r' : Out} {c d e g : Bool} (hr : c = true → d = true → e = true → g = true → r = r') : guardB ev round dst k tm df h ab r (c && d && e && g) = guardB ev round dst k tm df h ab r' (c && d && e && g) := by
  cases c <;> cases d <;> cases e <;> cases g <;> first | rfl | (rw [hr rfl rfl rfl rfl])
@[congr 1300] theorem guardCall_congr5 {dst : Option Tmp} {k : S → Ans} {tm : Tr Value} {df : List Deferred} {h : H} {ab : Option (List PanicEntry)} {a a' : Ans} {c d e g : Bool} (ha : c = true → d = true → e = true → g = true → a = a') : guardCall dst k tm df h ab (c && d && e && g) a = guardCall dst k tm df h ab (c && d && e && g) a' := by
  cases c <;> cases d <;> cases e <;> cases g <;> first | rfl | (rw [ha rfl rfl rfl rfl])
@[congr 1300] theorem guardB_congr6 {round : Option Nat} {dst : Option Tmp} {k : S → Ans} {tm : Tr Value} {df : List Deferred} {h : H} {ab : Option (List PanicEntry)} {r r' : Out} {c d e g : Bool} (hr : c = true → d = true → e = true → g = true → r = r') : guardB ev round dst k tm df h ab r (c && (d && (e && g))) = guardB ev round dst k tm df h ab r' (c && (d && (e && g))) := by
  cases c <;> cases d <;> cases e <;> cases g <;> first | rfl | (rw [hr rfl rfl rfl rfl])
@[congr 1300] theorem guardCall_congr6 {dst : Option Tmp} {k : S → Ans} {tm : Tr Value} {df : List Deferred} {h : H} {ab : Option (List PanicEntry)} {a a' : Ans} {c d e g : Bool} (ha : c = true → d = true → e = true → g = true → a = a') : guardCall dst k tm df h ab (c && (d && (e && g))) a = guardCall dst k tm df h ab (c && (d && (e && g))) a' := by
  cases c <;> cases d <;> cases e <;> cases g <;> first | rfl | (rw [ha rfl rfl rfl rfl])
@[simp] theorem guardB_true (round : Option Nat) (dst : Option Tmp) (k : S → Ans) (tm : Tr Value) (df : List Deferred) (h : H) (ab : Option (List PanicEntry)) (r : Out) : guardB ev round dst k tm df h ab r true = opRes ev round dst k tm df h ab r := rfl
@[simp] theorem guardB_false (round : Option Nat) (dst : Option Tmp) (k : S → Ans) (tm : Tr Value) (df : List Deferred) (h : H) (ab : Option (List PanicEntry)) (r : Out) : guardB ev round dst k tm df h ab r false = k ⟨putT tm undef dst, df, h, ab⟩ := rfl
@[simp] theorem guardB_val (round : Option Nat) (d : Tmp) (k : S → Ans) (tm : Tr Value) (df : List Deferred) (h : H) (ab : Option (List PanicEntry)) (v : Value) (b : Bool) :
    guardB ev round (some d) k tm df h ab (.of (.val v h)) b = k ⟨tm.set d (onB undef v b), df, h, ab⟩ := by cases b <;> rfl
@[simp] theorem guardB_call (round : Option Nat) (dst : Option Tmp) (k : S → Ans) (tm : Tr Value) (df : List Deferred) (h : H) (ab : Option (List PanicEntry)) (f : Value) (args : List Value) (b : Bool) :
    guardB ev round dst k tm df h ab (.call f args) b = guardCall dst k tm df h ab b (ev (.call f args h none)) := by cases b <;> rfl
@[simp] theorem guardCall_ret (d : Tmp) (k : S → Ans) (tm : Tr Value) (df : List Deferred) (h : H) (ab ab' : Option (List PanicEntry)) (v : Value) (b : Bool) :
    guardCall (some d) k tm df h ab b (.ret v h ab') = k ⟨tm.set d (onB undef v b), df, h, ab⟩ := by cases b <;> rfl
section
variable {β : Type} (u x y : β) (b c : Bool)
@[simp] theorem onB_else : onB (onB u x (!b)) y b = onB x y b := by cases b <;> rfl
@[simp] theorem onB_elseC {d : Bool} (h : d = !b) : onB (onB u x d) y b = onB x y b := by subst h; cases b <;> rfl
@[simp] theorem onB_then : onB x (onB u y b) b = onB x y b := by cases b <;> rfl
@[simp] theorem onB_elseT : onB (onB u x b) y b = onB u y b := by cases b <;> rfl
@[simp] theorem onB_else2 : onB (onB u x (!b && c)) y b = onB (onB u x c) y b := by cases b <;> cases c <;> rfl
@[simp] theorem onB_then2 : onB x (onB u y (b && c)) b = onB x (onB u y c) b := by cases b <;> cases c <;> rfl
end
@[simp] theorem boolIs_guarded (w x b : Bool) : boolIs w (some (onB undef (Value.bool x) b)) = some (b && (x == w)) := by cases b <;> rfl
@[simp] theorem onB_set (tm : Tr Value) (d : Nat) (v w : Value) (b : Bool) : onB (tm.set d v) (tm.set d w) b = tm.set d (onB v w b) := by cases b <;> rfl
@[simp] theorem onB_val (v w : Value) (h : H) (b : Bool) : onB (Res.val v h) (Res.val w h) b = .val (onB v w b) h := by cases b <;> rfl
@[simp] theorem onB_boolV (x y b : Bool) : onB (Value.bool x) (Value.bool y) b = .bool (cond b y x) := by cases b <;> rfl
@[simp] theorem onB_same {β : Type} (x : β) (b : Bool) : onB x x b = x := by cases b <;> rfl
@[simp] theorem beq_trueB (b : Bool) : (b == true) = b := by cases b <;> rfl
@[simp] theorem beq_falseB (b : Bool) : (b == false) = !b := by cases b <;> rfl
@[simp] theorem yielded_some (tm : Tr Value) (d : Tmp) (op : Op) (ty : TypeId) (pos : String) (after : Array Edge) (g : Option (Nat × Bool)) : yieldedT tm (some ⟨some d, op, ty, pos, after, g⟩) = tm.get d := rfl
@[simp] theorem boolIs_some (w b : Bool) : boolIs w (some (.bool b)) = some (b == w) := rfl
@[simp] theorem onO_n {α β : Type} (n : β) (s : α → β) : onO n s none = n := rfl
@[simp] theorem onO_s {α β : Type} (n : β) (s : α → β) (a : α) : onO n s (some a) = s a := rfl
@[simp] theorem onB_true {β : Type} (f t : β) : onB f t true = t := rfl
@[simp] theorem onB_false {β : Type} (f t : β) : onB f t false = f := rfl
@[simp] theorem put_none (tm : Tr Value) (v : Value) : putT tm v none = tm := rfl
@[simp] theorem put_some (tm : Tr Value) (v : Value) (d : Tmp) : putT tm v (some d) = tm.set d v := rfl
@[simp] theorem res_val (r : Option Nat) (dst : Option Tmp) (k : S → Ans) (tm : Tr Value) (df : List Deferred) (h0 : H) (ab : Option (List PanicEntry)) (v : Value) (h : H) :
    opRes ev r dst k tm df h0 ab (.of (.val v h)) = k ⟨putT tm v dst, df, h, ab⟩ := rfl
@[simp] theorem res_pan (r : Option Nat) (dst : Option Tmp) (k : S → Ans) (tm : Tr Value) (df : List Deferred) (h : H) (ab : Option (List PanicEntry)) (v : Value) :
    opRes ev r dst k tm df h ab (.pan v) = .code (.panic [{ v, recovered := false }]) ⟨tm, df, h, ab⟩ := rfl
@[simp] theorem res_call (r : Option Nat) (dst : Option Tmp) (k : S → Ans) (tm : Tr Value) (df : List Deferred) (h : H) (ab : Option (List PanicEntry)) (f : Value) (args : List Value) :
    opRes ev r dst k tm df h ab (.call f args) = opCall dst k tm df ab (ev (.call f args h none)) := rfl
@[simp] theorem call_ret (dst : Option Tmp) (k : S → Ans) (tm : Tr Value) (df : List Deferred) (ab : Option (List PanicEntry)) (v : Value) (h : H) (ab' : Option (List PanicEntry)) :
    opCall dst k tm df ab (.ret v h ab') = k ⟨putT tm v dst, df, h, ab⟩ := rfl
@[simp] theorem call_pan (dst : Option Tmp) (k : S → Ans) (tm : Tr Value) (df : List Deferred) (ab : Option (List PanicEntry)) (c : List PanicEntry) (h : H) (ab' : Option (List PanicEntry)) :
    opCall dst k tm df ab (.pan c h ab') = .code (.panic c) ⟨tm, df, h, ab⟩ := rfl
/-! Slots -/
@[simp] theorem get_nil (k : Nat) : (Tr.nil : Tr Value).get k = none := rfl
@[simp] theorem get_set (t : Tr Value) (k j : Nat) (x : Value) : (t.set k x).get j = if j = k then some x else t.get j := Tr.get_set t k j x
@[simp] theorem opv_tmp (tm : Tr Value) (t : Tmp) : opv tm (.tmp t) = tm.get t := rfl
@[simp] theorem opv_const (tm : Tr Value) (v : Value) : opv tm (.const v) = some v := rfl
@[simp] theorem opv_func (tm : Tr Value) (f : FuncId) : opv tm (.func f) = some (.func (.func f) #[] #[]) := rfl
@[simp] theorem ov_nil (tm : Tr Value) : opvs tm [] = some [] := rfl
@[simp] theorem ov_cons (tm : Tr Value) (x : Operand) (l : List Operand) : opvs tm (x :: l) = match opv tm x with | some v => (match opvs tm l with | some r => some (v :: r) | none => none) | none => none := rfl
@[simp] theorem parts_nil (tm : Tr Value) : opvParts tm [] = some [] := rfl
@[simp] theorem parts_cons (tm : Tr Value) (i : Nat) (x : Operand) (l : List (Nat × Operand)) : opvParts tm ((i, x) :: l) = match opv tm x with | some v => (match opvParts tm l with | some r => some ((i, v) :: r) | none => none) | none => none := rfl
@[simp] theorem init_nil (k : Nat) (t : Tr Value) : initT [] k t = t := rfl
@[simp] theorem init_cons (v : Value) (l : List Value) (k : Nat) (t : Tr Value) : initT (v :: l) k t = initT l (k + 1) (t.set k v) := rfl
/-! Memory -/
@[simp] theorem h_new_get (h : H) (o : AObj) (j : Nat) : (h.new o).get j = if j = h.next then some o else h.get j := by
  rw [new_eq]; exact Tr.get_set _ _ _ _
@[simp] theorem h_new_next (h : H) (o : AObj) : (h.new o).next = h.next + 1 := new_next h o
@[simp] theorem h_new_base (h : H) (o : AObj) : (h.new o).base = h.base := by rw [new_eq]
@[simp] theorem h_put_get (h : H) (b j : Nat) (o : AObj) : (h.put b o).get j = if j = b then some o else h.get j := by
  rw [H.put, putM_eq]
  show ((h.mark b).m.set b o).get j = _
  rw [Tr.get_set]
  by_cases e : j = b
  · rw [if_pos e, if_pos e]
  · rw [if_neg e, if_neg e]; exact mark_get h b j
@[simp] theorem h_put_next (h : H) (b : Nat) (o : AObj) : (h.put b o).next = h.next := put_next h b o
@[simp] theorem h_put_base (h : H) (b : Nat) (o : AObj) : (h.put b o).base = h.base := put_base h b o
@[simp] theorem h_touch_get (h : H) (b j : Nat) : (h.touch b).get j = h.get j := touch_get h b j
@[simp] theorem h_touch_next (h : H) (b : Nat) : (h.touch b).next = h.next := touch_next h b
@[simp] theorem h_touch_base (h : H) (b : Nat) : (h.touch b).base = h.base := (touch_le h b).base
@[simp] theorem h_empty_get (j : Nat) : H.empty.get j = none := rfl
@[simp] theorem h_empty_next : H.empty.next = 0 := rfl
@[simp] theorem h_empty_base : H.empty.base = 0 := rfl
end Sym
end Go.Am
/- Equations by which a run is worked out on values that are not known: the operations. -/
namespace Go.Am
open Go
variable {T : Tab} {ev : Task → Ans} {fr : Fr}
namespace Sym
section
variable (tm : Tr Value) (ty : TypeId) (h : H)
@[simp] theorem x_move (x : Operand) : execOp T tm ty h (.move x) = .of (vres h (opv tm x)) := rfl
@[simp] theorem x_assign (x : Operand) : execOp T tm ty h (.assign x) = .of (vres h (opv tm x)) := rfl
@[simp] theorem x_pick (c a b : Operand) : execOp T tm ty h (.pick c a b) = .of (pickOf tm h a b (opv tm c)) := rfl
@[simp] theorem x_alloc (e : TypeId) : execOp T tm ty h (.alloc e) = .of (boxOf h e (zero T e)) := rfl
@[simp] theorem x_box (e : TypeId) (x : Operand) : execOp T tm ty h (.box e x) = .of (boxOf h e (opv tm x)) := rfl
@[simp] theorem x_build (t : TypeId) (ps : Array (Nat × Operand)) : execOp T tm ty h (.build t ps) = .of (buildOf T h t (zero T t) (opvParts tm ps.toList)) := rfl
@[simp] theorem x_buildSlice (t : TypeId) (n : Nat) (ps : Array (Nat × Operand)) : execOp T tm ty h (.buildSlice t n ps) = .of (buildSliceOf T h n (T.under t) (opvParts tm ps.toList)) := rfl
@[simp] theorem x_load (t : TypeId) (a : Operand) : execOp T tm ty h (.load t a) = .of (loadOf T h t (opv tm a)) := rfl
@[simp] theorem x_store (t : TypeId) (a v : Operand) : execOp T tm ty h (.store t a v) = .of (storeOf T h t (opv tm a) (opv tm v)) := rfl
@[simp] theorem x_bin (op : BinOp) (t t' : TypeId) (x y : Operand) : execOp T tm ty h (.binOp op t x y t') = .of (binOf T h op t x y (opv tm x) (opv tm y)) := rfl
@[simp] theorem x_un (op : UnOp) (t : TypeId) (x : Operand) : execOp T tm ty h (.unOp op t x) = .of (unOf T h op (opv tm x)) := rfl
@[simp] theorem x_convert (s d : TypeId) (x : Operand) : execOp T tm ty h (.convert s d x) = .of (convertOf T h s d (opv tm x)) := rfl
@[simp] theorem x_makeSlice (t : TypeId) (l c : Operand) : execOp T tm ty h (.makeSlice t l c) = .of (makeSliceOf T h (T.under t) (opv tm l) (opv tm c)) := rfl
@[simp] theorem x_makeFunc (fn : Fn) (a b : Array Operand) : execOp T tm ty h (.makeFunc fn a b) = .of (funcOf h fn (opvs tm a.toList) (opvs tm b.toList)) := rfl
@[simp] theorem x_slice (t : TypeId) (x : Operand) (lo hi mx : Option Operand) : execOp T tm ty h (.slice t x lo hi mx) = .of (sliceOf T h t (opv tm x) (bounds lo (opvO tm lo)) (bounds hi (opvO tm hi)) (bounds mx (opvO tm mx))) := rfl
@[simp] theorem x_fieldAddr (s : TypeId) (x : Operand) (f : Nat) : execOp T tm ty h (.fieldAddr s x f) = .of (fieldAddrOf T h s f (opv tm x)) := rfl
@[simp] theorem x_field (t : TypeId) (x : Operand) (f : Nat) : execOp T tm ty h (.field t x f) = .of (fieldOf T h f (T.under t) (opv tm x)) := rfl
@[simp] theorem x_indexAddr (t : TypeId) (x i : Operand) : execOp T tm ty h (.indexAddr t x i) = .of (indexAddrOf T h (T.under t) (opv tm x) (opv tm i)) := rfl
@[simp] theorem x_index (t : TypeId) (x i : Operand) : execOp T tm ty h (.index t x i) = .of (indexOf T h t (T.under t) (opv tm x) (opv tm i)) := rfl
@[simp] theorem x_extract (x : Operand) (i : Nat) : execOp T tm ty h (.extract x i) = .of (extractOf h i (opv tm x)) := rfl
@[simp] theorem x_iface (t : TypeId) (x : Operand) : execOp T tm ty h (.makeInterface t x) = .of (ifaceOf h t (T.under t) (opv tm x)) := rfl
@[simp] theorem x_panic (x : Operand) : execOp T tm ty h (.panic x) = panOf (opv tm x) := rfl
@[simp] theorem x_call (f : Operand) (args : Array Operand) (ts : Array TypeId) : execOp T tm ty h (.call ⟨.value f, args, ts⟩) = callOf T tm h ts ty (.value f) (opvs tm args.toList) := rfl
@[simp] theorem x_callB (b : Builtin) (args : Array Operand) (ts : Array TypeId) : execOp T tm ty h (.call ⟨.builtin b, args, ts⟩) = callOf T tm h ts ty (.builtin b) (opvs tm args.toList) := rfl
@[simp] theorem callOf_value (ts : Array TypeId) (f : Operand) (args : List Value) : callOf T tm h ts ty (.value f) (some args) = callTo args (opv tm f) := rfl
@[simp] theorem callOf_builtin (ts : Array TypeId) (b : Builtin) (args : List Value) : callOf T tm h ts ty (.builtin b) (some args) = builtinOf T h ts ty args b := rfl
end
@[simp] theorem callTo_some (args : List Value) (f : Value) : callTo args (some f) = .call f args := rfl
@[simp] theorem vres_some (h : H) (v : Value) : vres h (some v) = .val v h := rfl
@[simp] theorem pickOf_bool (tm : Tr Value) (h : H) (a b : Operand) (c : Bool) : pickOf tm h a b (some (.bool c)) = onB (vres h (opv tm b)) (vres h (opv tm a)) c := by cases c <;> rfl
@[simp] theorem boxOf_some (h : H) (e : TypeId) (v : Value) : boxOf h e (some v) = .val (.pointer (some ⟨h.next, 0, none⟩)) (h.new (.cells (cellsL v) e false)) := rfl
/-! Loads, stores -/
@[simp] theorem loadOf_some (h : H) (t : TypeId) (a : Value) : loadOf T h t (some a) = loadAt T h t a := rfl
@[simp] theorem loadLocOf_some (h : H) (t : TypeId) (a : Value) : loadLocOf T h t (some a) = loadLoc T h t a := rfl
@[simp] theorem loadAt_ptr (h : H) (t : TypeId) (b off : Nat) : loadAt T h t (.pointer (some ⟨b, off, none⟩)) = loadIn T h t b off (h.get b) := rfl
@[simp] theorem loadLoc_ptr (h : H) (t : TypeId) (b off : Nat) : loadLoc T h t (.pointer (some ⟨b, off, none⟩)) = loadIn T h t b off (h.get b) := rfl
@[simp] theorem loadAt_data (h : H) (t : TypeId) (e : Value) (f : Nat) (p : Array FieldStep) (k : FuncId) (q : Array Value) : loadAt T h t (.func (.via f p k true) ⟨[e]⟩ q) = vres h (partOf T t (cellsL e) f) := rfl
@[simp] theorem loadIn_cells (h : H) (t : TypeId) (b off : Nat) (c : List Value) (e : TypeId) (g : Bool) : loadIn T h t b off (some (.cells c e g)) = vres (h.touch b) (partOf T t c off) := rfl
theorem part_one {t : TypeId} (ha : isAgg T t = some false) (c : List Value) (off : Nat) : partOf T t c off = c[off]? := by
  unfold partOf; rw [ha]; exact nthL_eq off c
theorem part_agg {t : TypeId} {n : Nat} (ha : isAgg T t = some true) (hs : size T t = some n) (c : List Value) (off : Nat) : partOf T t c off = aggOf (cut c off n) := by
  unfold partOf; rw [ha]; show partAgg c off (size T t) = _; rw [hs]; rfl
theorem takeL_some : ∀ (n : Nat) (l : List Value), n ≤ l.length → takeL n l = some (l.take n)
  | 0, l, _ => by simp [takeL_zero]
  | n + 1, [], h => by simp at h
  | n + 1, x :: l, h => by
    have := takeL_some n l (by simpa using h)
    show (match takeL n l with | some r => some (x :: r) | none => none) = _
    rw [this]; simp
theorem cut_some {c : List Value} {off n : Nat} (h : off + n ≤ c.length) : cut c off n = some ((c.drop off).take n) := by
  unfold cut; rw [dropL_eq, takeL_some _ _ (by rw [List.length_drop]; omega)]
theorem cut_if (c : List Value) (off n : Nat) : cut c off n = if off + n ≤ c.length ∨ n = 0 then some ((c.drop off).take n) else none := by
  by_cases h : off + n ≤ c.length
  · rw [if_pos (.inl h)]; exact cut_some h
  · by_cases hn : n = 0
    · subst hn; rw [if_pos (.inr rfl)]; unfold cut; rw [takeL_zero]; simp
    · rw [if_neg (by simp [h, hn])]
      cases hc : cut c off n with
      | none => rfl
      | some r =>
        obtain ⟨h1, _⟩ := cut_eq hc
        rw [List.length_drop] at h1
        omega
@[simp] theorem aggOf_some (r : List Value) : aggOf (some r) = some (.agg ⟨r⟩) := rfl
@[simp] theorem storeOf_some (h : H) (t : TypeId) (a v : Value) : storeOf T h t (some a) (some v) = hres (storeAt T h t v a) := rfl
@[simp] theorem hres_some (h : H) : hres (some h) = .val undef h := rfl
theorem over_some : ∀ (vs l : List Value), vs.length ≤ l.length → over vs l = some (vs ++ l.drop vs.length)
  | [], l, _ => rfl
  | v :: vs, [], h => by simp at h
  | v :: vs, x :: l, h => by
    have := over_some vs l (by simpa using h)
    show (match over vs l with | some r => some (v :: r) | none => none) = _
    rw [this]; simp
theorem splice_some : ∀ (off : Nat) (vs l : List Value), off + vs.length ≤ l.length → splice off vs l = some (l.take off ++ (vs ++ l.drop (off + vs.length)))
  | 0, vs, l, h => by
    show over vs l = _
    rw [over_some vs l (by omega)]; simp
  | off + 1, vs, [], h => by simp at h
  | off + 1, vs, x :: l, h => by
    have := splice_some off vs l (by simp at h; omega)
    show (match splice off vs l with | some r => some (x :: r) | none => none) = _
    rw [this]
    have : off + 1 + vs.length = (off + vs.length) + 1 := by omega
    rw [this]; simp
theorem fits_some (vs : List Value) (n : Nat) : fits vs (some n) = cond (Nat.beq (lenL vs) n) (oneCells vs) false := rfl
theorem storeAt_ptr {h : H} {t : TypeId} {v : Value} {b off n : Nat} {c : List Value} {e : TypeId} {g : Bool} (hs : size T t = some n) (hl : (cellsL v).length = n) (ho : oneCells (cellsL v) = true) (hg : h.get b = some (.cells c e g))
    (hb : off + n ≤ c.length) : storeAt T h t v (.pointer (some ⟨b, off, none⟩)) = some (h.put b (.cells (c.take off ++ (cellsL v ++ c.drop (off + n))) e g)) := by
  show onB none (storeIn h b off (cellsL v) (h.get b)) (fits (cellsL v) (size T t)) = _
  rw [hs, fits_some, lenL_eq, nbeq_eq hl, ho]
  show storeIn h b off (cellsL v) (h.get b) = _
  rw [hg]
  show putSome h b e g (splice off (cellsL v) c) = _
  rw [splice_some _ _ _ (by omega), hl]
  rfl
/-! Fields, elements -/
theorem fieldAddr_ptr {h : H} {s : TypeId} {f b off n o : Nat} {fs : Array Field} {fd : Field} (hu : T.under s = some (.struct fs)) (hf : fs.toList[f]? = some fd) (hs : size T fd.type = some (n + 1)) (ho : fd.offset = o) :
    fieldAddrOf T h s f (some (.pointer (some ⟨b, off, none⟩))) = .val (.pointer (some ⟨b, off + o, none⟩)) h := by
  show onO (β := Tab → H → Addr → Res) (fun _ _ _ => .fail) (fun fd T h a => fieldAddrBy h a fd.offset (size T fd.type)) (fieldAt (T.under s) f) T h ⟨b, off, none⟩ = _
  rw [hu]
  have e : fieldAt (some (.struct fs)) f = some fd := hf
  rw [e]
  show fieldAddrBy h ⟨b, off, none⟩ fd.offset (size T fd.type) = _
  rw [hs]
  show Res.val (.pointer (some ((⟨b, off, none⟩ : Addr).add fd.offset))) h = _
  rw [addr_add, ho]
theorem fieldAddr_data {h : H} {s : TypeId} {f off n o : Nat} {e : Value} {fs : Array Field} {fd : Field} {p : Array FieldStep} {k : FuncId} {q : Array Value} (hu : T.under s = some (.struct fs)) (hf : fs.toList[f]? = some fd) (hs : size T fd.type = some (n + 1)) (ho : fd.offset = o) :
    fieldAddrOf T h s f (some (.func (.via off p k true) ⟨[e]⟩ q)) = .val (dptr e (off + o)) h := by
  show fieldData T h s f (some (.func (.via off p k true) ⟨[e]⟩ q)) = _
  unfold fieldData
  rw [hu]
  have e1 : fieldAt (some (.struct fs)) f = some fd := hf
  rw [e1]
  show fieldDataBy h e off fd.offset (size T fd.type) = _
  rw [hs, ho]; rfl
theorem indexAddr_data {h : H} {el : TypeId} {off len i n : Nat} {p : Array FieldStep} {es : List Value} {q : Array Value} {k : IntKind} {e : Value} (hs : size T el = some n) (hi : i < len) (he : es[off + i]? = some e) (hn : (cellsL e).length = n) :
    indexAddrOf T h (some (.slice el)) (some (.func (.via off p len false) ⟨es⟩ q)) (some (.int k (i : Int))) = .val (dptr e 0) h := by
  show indexData h es off len i (size T el) = _
  rw [hs]
  show cond (Nat.ble (Nat.succ i) len) (indexDataIn h n es[Nat.add off i]?) .fail = _
  rw [Nat.ble_eq_true_of_le hi]
  show indexDataIn h n es[off + i]? = _
  rw [he]
  show cond (Nat.beq (lenL (cellsL e)) n) (Res.val (dptr e 0) h) .fail = _
  rw [lenL_eq, nbeq_eq hn]; rfl
@[simp] theorem extractOf_tuple (h : H) (i : Nat) (l : List Value) : extractOf h i (some (.tuple ⟨l⟩)) = vres h l[i]? := by
  show vres h (nthL i l) = _
  rw [nthL_eq]
/-! Operators -/
section
variable (h : H) (t : TypeId) (x y : Operand) (k : IntKind) (a b : Int)
theorem binInt_of (op : BinOp) {v : Value} (hv : intBin op k a b = some v) : binOf T h op t x y (some (.int k a)) (some (.int k b)) = .val v h := by
  show onB .fail (onO (β := Tab → H → BinOp → TypeId → IntKind → Int → Int → Res) (fun T h op t k a b => vresG h (pureRun T.prog (binOp op t (.int k a) (.int k b))))
    (fun v _ h _ _ _ _ _ => .val v h) (intBin op k a b) T h op t k a b) (decide (k = k)) = _
  rw [hv, decide_eq_true rfl]; rfl
@[simp] theorem bin_add : binOf T h .add t x y (some (.int k a)) (some (.int k b)) = .val (.int k (k.wrap (a + b))) h := binInt_of h t x y k a b .add rfl
@[simp] theorem bin_sub : binOf T h .sub t x y (some (.int k a)) (some (.int k b)) = .val (.int k (k.wrap (a - b))) h := binInt_of h t x y k a b .sub rfl
@[simp] theorem bin_mul : binOf T h .mul t x y (some (.int k a)) (some (.int k b)) = .val (.int k (k.wrap (a * b))) h := binInt_of h t x y k a b .mul rfl
@[simp] theorem bin_eql : binOf T h .eql t x y (some (.int k a)) (some (.int k b)) = .val (.bool (decide (a = b))) h := by
  rw [binInt_of h t x y k a b .eql rfl]; congr 2
@[simp] theorem bin_neq : binOf T h .neq t x y (some (.int k a)) (some (.int k b)) = .val (.bool (!decide (a = b))) h := by
  rw [binInt_of h t x y k a b .neq rfl]; congr 2
@[simp] theorem bin_lss : binOf T h .lss t x y (some (.int k a)) (some (.int k b)) = .val (.bool (decide (a < b))) h := binInt_of h t x y k a b .lss rfl
@[simp] theorem bin_leq : binOf T h .leq t x y (some (.int k a)) (some (.int k b)) = .val (.bool (decide (a ≤ b))) h := binInt_of h t x y k a b .leq rfl
@[simp] theorem bin_gtr : binOf T h .gtr t x y (some (.int k a)) (some (.int k b)) = .val (.bool (decide (a > b))) h := binInt_of h t x y k a b .gtr rfl
@[simp] theorem bin_geq : binOf T h .geq t x y (some (.int k a)) (some (.int k b)) = .val (.bool (decide (a ≥ b))) h := binInt_of h t x y k a b .geq rfl
end
@[simp] theorem un_not (h : H) (b : Bool) : unOf T h .not (some (.bool b)) = .val (.bool (!b)) h := by
  cases b <;> rfl
/-! Built-in functions -/
@[simp] theorem b_len (h : H) (ts : Array TypeId) (ty : TypeId) (x : Value) : builtinOf T h ts ty [x] .len = .of (lenBy h (underO T ts.toList[0]?) x) := rfl
@[simp] theorem under_s (t : TypeId) : underO T (some t) = T.under t := rfl
@[simp] theorem len_data (h : H) (e off : TypeId) (p : Array FieldStep) (n : Nat) (es q : Array Value) : lenBy h (some (.slice e)) (.func (.via off p n false) es q) = .val (.int .i64 n) h := rfl
@[simp] theorem len_slice (h : H) (e : TypeId) (a : Option Addr) (n c : Nat) : lenBy h (some (.slice e)) (.slice a n c) = .val (.int .i64 n) h := rfl
@[simp] theorem len_string (h : H) (s : ByteArray) : lenBy h (some .string) (.string s) = .val (.int .i64 s.size) h := rfl
@[simp] theorem b_append (h : H) (ts : Array TypeId) (ty : TypeId) (s x : Value) : builtinOf T h ts ty [s, x] .append = .of (appendOf T h x (underO T ts.toList[0]?) (underO T ts.toList[1]?) s (lenOf x)) := rfl
end Sym
end Go.Am
