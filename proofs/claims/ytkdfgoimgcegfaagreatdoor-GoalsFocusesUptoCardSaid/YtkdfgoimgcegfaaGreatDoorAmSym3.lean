/- Equations by which a region that draws its order is worked out, where all blocks are the caller's own: for simp. -/
import Derived.Test.YtkdfgoimgcegfaaGreatDoorAmTask
set_option linter.unusedSectionVars false
set_option linter.unusedSimpArgs false
set_option linter.unusedVariables false
namespace Go.Am
open Go
variable {T : Tab} {ev : Task → Ans} {fr : Fr}
theorem rangeBits_self (a : Nat) : rangeBits a a = 0 := by
  apply Nat.eq_of_testBit_eq
  intro x
  cases hx : (rangeBits a a).testBit x with
  | false => simp
  | true => have := (rangeBits_spec _ _ _).1 hx; omega
theorem rangeBits_one (a : Nat) : rangeBits a (a + 1) = bit a := by
  apply Nat.eq_of_testBit_eq
  intro x
  have h1 := rangeBits_spec a (a + 1) x
  cases hx : (bit a).testBit x with
  | true => rw [testBit_bit_eq hx]; exact (rangeBits_spec a (a + 1) a).2 ⟨Nat.le_refl _, by omega⟩
  | false =>
    cases hy : (rangeBits a (a + 1)).testBit x with
    | false => rfl
    | true =>
      obtain ⟨q1, q2⟩ := h1.1 hy
      have : x = a := by omega
      subst this
      rw [testBit_bit] at hx; cases hx
theorem bit_ne (b : Nat) : Nat.beq (bit b) 0 = false := nbeq_ne (by
  intro e
  have := testBit_bit b
  rw [e] at this; simp at this)
theorem zero_lor (n : Nat) : Nat.lor 0 n = n := Nat.zero_or n
theorem lor_zero (n : Nat) : Nat.lor n 0 = n := Nat.or_zero n
theorem disj_bits {a b : Nat} (h : a ≠ b) : disj (bit a) (bit b) = true := by
  unfold disj
  apply nbeq_eq
  apply Nat.eq_of_testBit_eq
  intro x
  show (bit a &&& bit b).testBit x = _
  rw [Nat.testBit_and]
  cases h1 : (bit a).testBit x with
  | false => simp
  | true =>
    cases h2 : (bit b).testBit x with
    | false => simp
    | true => exact absurd ((testBit_bit_eq h1).symm.trans (testBit_bit_eq h2)) h
theorem disj_lor_left (a b c : Nat) : disj (Nat.lor a b) c = (disj a c && disj b c) := by
  have e : ∀ x y : Nat, disj x y = true ↔ x &&& y = 0 := fun x y => ⟨fun h => nbeq_true h, fun h => nbeq_eq h⟩
  have q : (Nat.lor a b) &&& c = (a &&& c) ||| (b &&& c) := Nat.and_or_distrib_right ..
  cases h1 : disj a c <;> cases h2 : disj b c
  · cases h3 : disj (Nat.lor a b) c with
    | false => rfl
    | true =>
      rw [e, q] at h3
      have h4 : a &&& c = 0 := (Nat.or_eq_zero_iff.1 h3).1
      rw [← e, h1] at h4; cases h4
  · cases h3 : disj (Nat.lor a b) c with
    | false => rfl
    | true =>
      rw [e, q] at h3
      have h4 : a &&& c = 0 := (Nat.or_eq_zero_iff.1 h3).1
      rw [← e, h1] at h4; cases h4
  · cases h3 : disj (Nat.lor a b) c with
    | false => rfl
    | true =>
      rw [e, q] at h3
      have h4 : b &&& c = 0 := (Nat.or_eq_zero_iff.1 h3).2
      rw [← e, h2] at h4; cases h4
  · show disj (Nat.lor a b) c = true
    rw [e] at h1 h2 ⊢
    rw [q, h1, h2]; rfl
theorem disj_symm (a b : Nat) : disj a b = disj b a := by
  unfold disj
  rw [show Nat.land a b = a &&& b from rfl, Nat.and_comm]; rfl
theorem disj_lor_right (a b c : Nat) : disj c (Nat.lor a b) = (disj c a && disj c b) := by
  rw [disj_symm, disj_lor_left, disj_symm a, disj_symm b]
/-- Nothing was written. -/
def qn (l : List Note) : Bool := l.all (fun x => x.wr == 0)
@[simp] theorem qn_nil : qn [] = true := by simp [qn]
@[simp] theorem qn_cons (i r w : Nat) (l : List Note) : qn (⟨i, r, w⟩ :: l) = (w == 0 && qn l) := by simp [qn]
theorem apart_quiet (bj i r : Nat) : ∀ l, qn l = true → apartAll bj ⟨i, r, 0⟩ l = true
  | [], _ => rfl
  | x :: l, h => by
    obtain ⟨j, rd, wr⟩ := x
    rw [qn_cons] at h
    simp at h
    rw [apartAll_cons, apart_quiet bj i r l h.2, h.1]
    unfold apart
    rw [disj_zero_left, disj_zero_left, disj_zero_left]
    cases hasBit bj j <;> rfl
namespace Sym
@[simp] theorem fresh_get (h : H) (b : Nat) : h.fresh.get b = h.get b := by cases h; rfl
@[simp] theorem fresh_next (h : H) : h.fresh.next = h.next := by cases h; rfl
@[simp] theorem fresh_base (h : H) : h.fresh.base = h.next := by cases h; rfl
@[simp ↓] theorem reg_drawn (ops : Array Oper) (s : S) : runRegion T ev fr ops true s = runDrawn T ev ops (befores ops.toList 0 .nil) ops.toList 0 [] s := rfl
@[simp] theorem drawn_nil (all : Array Oper) (bs : Tr Nat) (i : Nat) (l : List Note) (s : S) : runDrawn T ev all bs [] i l s = .code .normal s := rfl
/-- What becomes of an answer, where it was wanted. -/
noncomputable def resD (ev : Task → Ans) (k : List Note → S → Ans) (bs : Tr Nat) (l : List Note) (i : Nat) (dst : Option Tmp) (tm : Tr Value) (df : List Deferred) (h : H) (ab : Option (List PanicEntry)) (r : Out) : Ans :=
  drawnRes ev k h.next h.base h.rd h.wr bs l i dst tm df h.fresh ab r
noncomputable def callD (k : List Note → S → Ans) (bs : Tr Nat) (l : List Note) (i : Nat) (dst : Option Tmp) (tm : Tr Value) (df : List Deferred) (h : H) (ab : Option (List PanicEntry)) (a : Ans) : Ans :=
  drawnCall k h.next h.base h.rd h.wr bs l i dst tm df ab a
noncomputable def doneD (k : List Note → S → Ans) (bs : Tr Nat) (l : List Note) (i : Nat) (tm : Tr Value) (df : List Deferred) (h : H) (ab : Option (List PanicEntry)) (h1 : H) : Ans :=
  drawnDone k h.next h.base h.rd h.wr bs l i tm df ab h1
noncomputable def guardD (ev : Task → Ans) (k : List Note → S → Ans) (bs : Tr Nat) (l : List Note) (i : Nat) (dst : Option Tmp) (tm : Tr Value) (df : List Deferred) (h : H) (ab : Option (List PanicEntry)) (r : Out) (b : Bool) : Ans :=
  cond b (resD ev k bs l i dst tm df h ab r) (k l ⟨putT tm undef dst, df, h, ab⟩)
noncomputable def guardDO (ev : Task → Ans) (k : List Note → S → Ans) (bs : Tr Nat) (l : List Note) (i : Nat) (dst : Option Tmp) (tm : Tr Value) (df : List Deferred) (h : H) (ab : Option (List PanicEntry)) (r : Out) : Option Bool → Ans
  | some b => guardD ev k bs l i dst tm df h ab r b
  | none => .fail
noncomputable def guardDC (k : List Note → S → Ans) (bs : Tr Nat) (l : List Note) (i : Nat) (dst : Option Tmp) (tm : Tr Value) (df : List Deferred) (h : H) (ab : Option (List PanicEntry)) (b : Bool) (a : Ans) : Ans :=
  cond b (callD k bs l i dst tm df h ab a) (k l ⟨putT tm undef dst, df, h, ab⟩)
section
variable (all : Array Oper) (bs : Tr Nat) (i : Nat) (dst : Option Tmp) (op : Op) (ty : TypeId) (pos : String) (after : Array Edge) (r : List Oper) (l : List Note) (tm : Tr Value) (df : List Deferred) (h : H) (ab : Option (List PanicEntry)) (k : List Note → S → Ans)
@[simp ↓] theorem drawn_cons : runDrawn T ev all bs (⟨dst, op, ty, pos, after, none⟩ :: r) i l ⟨tm, df, h, ab⟩ = resD ev (runDrawn T ev all bs r (i + 1)) bs l i dst tm df h ab (execOp T tm ty h.fresh op) := rfl
@[simp ↓] theorem drawn_consG (g : Nat × Bool) : runDrawn T ev all bs (⟨dst, op, ty, pos, after, some g⟩ :: r) i l ⟨tm, df, h, ab⟩ = guardDO ev (runDrawn T ev all bs r (i + 1)) bs l i dst tm df h ab (execOp T tm ty h.fresh op) (boolIs g.2 (yieldedT tm all.toList[g.1]?)) := by
  show onO .fail (fun b => onB (runDrawn T ev all bs r (i + 1) l ⟨putT tm undef dst, df, h, ab⟩) (resD ev (runDrawn T ev all bs r (i + 1)) bs l i dst tm df h ab (execOp T tm ty h.fresh op)) b) (boolIs g.2 (yieldedT tm all.toList[g.1]?)) = _
  cases boolIs g.2 (yieldedT tm all.toList[g.1]?) with
  | none => rfl
  | some b => cases b <;> rfl
@[congr] theorem guardDO_congr {r : Out} {o o' : Option Bool} (ho : o = o') : guardDO ev k bs l i dst tm df h ab r o = guardDO ev k bs l i dst tm df h ab r o' := by rw [ho]
@[simp] theorem guardDO_some (r : Out) (b : Bool) : guardDO ev k bs l i dst tm df h ab r (some b) = guardD ev k bs l i dst tm df h ab r b := rfl
@[simp] theorem resD_val (v : Value) (h1 : H) : resD ev k bs l i dst tm df h ab (.of (.val v h1)) = doneD k bs l i (putT tm v dst) df h ab h1 := rfl
@[simp] theorem resD_call (f : Value) (args : List Value) : resD ev k bs l i dst tm df h ab (.call f args) = callD k bs l i dst tm df h ab (ev (.call f args h.fresh none)) := rfl
@[simp] theorem callD_ret (v : Value) (h1 : H) (ab' : Option (List PanicEntry)) : callD k bs l i dst tm df h ab (.ret v h1 ab') = doneD k bs l i (putT tm v dst) df h ab h1 := rfl
@[simp] theorem guardD_true (r : Out) : guardD ev k bs l i dst tm df h ab r true = resD ev k bs l i dst tm df h ab r := rfl
@[simp] theorem guardD_false (r : Out) : guardD ev k bs l i dst tm df h ab r false = k l ⟨putT tm undef dst, df, h, ab⟩ := rfl
@[simp] theorem guardD_call (f : Value) (args : List Value) (b : Bool) : guardD ev k bs l i dst tm df h ab (.call f args) b = guardDC k bs l i dst tm df h ab b (ev (.call f args h.fresh none)) := by cases b <;> rfl
@[simp] theorem done_fresh : doneD k bs l i tm df h ab h.fresh = k l ⟨tm, df, h, ab⟩ := by
  obtain ⟨m, n, b0, rd, wr⟩ := h
  show forceN (fun w' => drawnNote k b0 rd wr bs l i tm df ab m n 0 0 w') (Nat.lor 0 (rangeBits n n)) = _
  rw [forceN_eq, rangeBits_self]
  rfl
theorem done_note {h : H} {h1 : H} {rd wr : Nat} (hb : h.base = 0) (hr : h1.rd = rd) (hw : wrN h h1 = wr) (hz : (Nat.beq rd 0 && Nat.beq wr 0) = false) (ha : apartAll (beforeOf bs i) ⟨i, rd, wr⟩ l = true) :
    doneD k bs l i tm df h ab h1 = k (⟨i, rd, wr⟩ :: l) ⟨tm, df, ⟨h1.m, h1.next, h.base, h.rd, h.wr⟩, ab⟩ := by
  obtain ⟨m1, n1, b1, r1, w1⟩ := h1
  obtain ⟨m, n, b0, r0, w0⟩ := h
  have hb : b0 = 0 := hb
  subst hb
  have hr : r1 = rd := hr
  subst hr
  show forceN (fun w' => drawnNote k 0 r0 w0 bs l i tm df ab m1 n1 r1 w1 w') (Nat.lor w1 (rangeBits n n1)) = _
  rw [forceN_eq]
  have hw : Nat.lor w1 (rangeBits n n1) = wr := hw
  rw [hw]
  unfold drawnNote
  have : cond (Nat.beq r1 0) (Nat.beq wr 0) false = false := by
    cases h1 : Nat.beq r1 0 <;> cases h2 : Nat.beq wr 0 <;> simp [h1, h2] at hz ⊢
  rw [this, cond_false, ha, cond_true]; rfl
@[simp] theorem done_touch {b : Nat} (hb : h.base = 0) (hlt : b < h.next) (hq : qn l = true) : doneD k bs l i tm df h ab (h.fresh.touch b) = k (⟨i, bit b, 0⟩ :: l) ⟨tm, df, h, ab⟩ := by
  have e : h.fresh.touch b = ⟨h.m, h.next, h.next, bit b, 0⟩ := by
    rw [touch_eq, if_neg (by rw [fresh_base]; omega), fresh_eq]
    show (⟨_, _, _, Nat.lor 0 (bit b), _⟩ : H) = _
    rw [zero_lor]
  rw [e, done_note (rd := bit b) (wr := 0) (hb := hb) (hr := rfl) (hw := by show Nat.lor 0 (rangeBits h.next h.next) = 0; rw [rangeBits_self]; rfl) (hz := by rw [bit_ne]; rfl) (ha := apart_quiet _ _ _ _ hq)]
@[simp] theorem guardD_val (v : Value) (b : Bool) (d : Tmp) : guardD ev k bs l i (some d) tm df h ab (.of (.val v h.fresh)) b = k l ⟨tm.set d (onB undef v b), df, h, ab⟩ := by
  cases b
  · rfl
  · exact done_fresh ..
/-- A note, if there is something. -/
def noteIf (b : Bool) (i r : Nat) (l : List Note) : List Note := cond b (⟨i, r, 0⟩ :: l) l
@[simp] theorem qn_noteIf (b : Bool) (i r : Nat) (l : List Note) : qn (noteIf b i r l) = qn l := by cases b <;> rfl
@[simp] theorem guardD_touch (v : Value) (b : Bool) (d : Tmp) {c : Nat} (hb : h.base = 0) (hlt : c < h.next) (hq : qn l = true) :
    guardD ev k bs l i (some d) tm df h ab (.of (.val v (h.fresh.touch c))) b = k (noteIf b i (bit c) l) ⟨tm.set d (onB undef v b), df, h, ab⟩ := by
  cases b
  · rfl
  · exact done_touch (hb := hb) (hlt := hlt) (hq := hq) ..
@[simp] theorem guardDC_ret (v : Value) (ab' : Option (List PanicEntry)) (b : Bool) (d : Tmp) : guardDC k bs l i (some d) tm df h ab b (.ret v h.fresh ab') = k l ⟨tm.set d (onB undef v b), df, h, ab⟩ := by
  cases b
  · rfl
  · exact done_fresh ..
@[simp] theorem done_new (o : AObj) (hb : h.base = 0) (ha : apartAll (beforeOf bs i) ⟨i, 0, bit h.next⟩ l = true) : doneD k bs l i tm df h ab (h.fresh.new o) = k (⟨i, 0, bit h.next⟩ :: l) ⟨tm, df, h.new o, ab⟩ := by
  rw [done_note (rd := 0) (wr := bit h.next) (hb := hb) (hr := by rw [new_eq, fresh_eq]) (hw := by rw [new_eq, fresh_eq]; show Nat.lor 0 (rangeBits h.next (h.next + 1)) = _; rw [rangeBits_one, zero_lor]) (hz := by rw [bit_ne]; rfl) (ha := ha)]
  rw [new_eq, new_eq, fresh_eq]
theorem done_put (o : AObj) {b : Nat} (hb : h.base = 0) (hlt : b < h.next) (ha : apartAll (beforeOf bs i) ⟨i, bit b, bit b⟩ l = true) : doneD k bs l i tm df h ab (h.fresh.put b o) = k (⟨i, bit b, bit b⟩ :: l) ⟨tm, df, h.put b o, ab⟩ := by
  have e : h.fresh.put b o = ⟨h.m.set b o, h.next, h.next, bit b, bit b⟩ := by
    rw [H.put, putM_eq, mark_eq, if_neg (by rw [fresh_base]; omega), fresh_eq]
    show (⟨_, _, _, Nat.lor 0 (bit b), Nat.lor 0 (bit b)⟩ : H) = _
    rw [zero_lor]
  have e2 : h.put b o = ⟨h.m.set b o, h.next, h.base, h.rd, h.wr⟩ := by
    rw [H.put, putM_eq, mark_eq, if_pos (by omega)]
  rw [e, done_note (rd := bit b) (wr := bit b) (hb := hb) (hr := rfl) (hw := by show Nat.lor (bit b) (rangeBits h.next h.next) = _; rw [rangeBits_self, lor_zero]) (hz := by rw [bit_ne]; rfl) (ha := ha), e2]
end
@[congr] theorem guardD_congr {k : List Note → S → Ans} {bs : Tr Nat} {l : List Note} {i : Nat} {dst : Option Tmp} {tm : Tr Value} {df : List Deferred} {h : H} {ab : Option (List PanicEntry)} {r r' : Out} {b : Bool} (hr : b = true → r = r') : guardD ev k bs l i dst tm df h ab r b = guardD ev k bs l i dst tm df h ab r' b := by
  cases b <;> first | rfl | (rw [hr rfl])
@[congr] theorem guardDC_congr {k : List Note → S → Ans} {bs : Tr Nat} {l : List Note} {i : Nat} {dst : Option Tmp} {tm : Tr Value} {df : List Deferred} {h : H} {ab : Option (List PanicEntry)} {a a' : Ans} {b : Bool} (ha : b = true → a = a') : guardDC k bs l i dst tm df h ab b a = guardDC k bs l i dst tm df h ab b a' := by
  cases b <;> first | rfl | (rw [ha rfl])
@[congr 1100] theorem guardD_congr2 {k : List Note → S → Ans} {bs : Tr Nat} {l : List Note} {i : Nat} {dst : Option Tmp} {tm : Tr Value} {df : List Deferred} {h : H} {ab : Option (List PanicEntry)} {r r' : Out} {c d : Bool} (hr : c = true → d = true → r = r') : guardD ev k bs l i dst tm df h ab r (c && d) = guardD ev k bs l i dst tm df h ab r' (c && d) := by
  cases c <;> cases d <;> first | rfl | (rw [hr rfl rfl])
@[congr 1100] theorem guardDC_congr2 {k : List Note → S → Ans} {bs : Tr Nat} {l : List Note} {i : Nat} {dst : Option Tmp} {tm : Tr Value} {df : List Deferred} {h : H} {ab : Option (List PanicEntry)} {a a' : Ans} {c d : Bool} (ha : c = true → d = true → a = a') : guardDC k bs l i dst tm df h ab (c && d) a = guardDC k bs l i dst tm df h ab (c && d) a' := by
  cases c <;> cases d <;> first | rfl | (rw [ha rfl rfl])
@[congr 1200] theorem guardD_congr3 {k : List Note → S → Ans} {bs : Tr Nat} {l : List Note} {i : Nat} {dst : Option Tmp} {tm : Tr Value} {df : List Deferred} {h : H} {ab : Option (List PanicEntry)} {r r' : Out} {c d e : Bool} (hr : c = true → d = true → e = true → r = r') : guardD ev k bs l i dst tm df h ab r (c && d && e) = guardD ev k bs l i dst tm df h ab r' (c && d && e) := by
  cases c <;> cases d <;> cases e <;> first | rfl | (rw [hr rfl rfl rfl])
@[congr 1200] theorem guardDC_congr3 {k : List Note → S → Ans} {bs : Tr Nat} {l : List Note} {i : Nat} {dst : Option Tmp} {tm : Tr Value} {df : List Deferred} {h : H} {ab : Option (List PanicEntry)} {a a' : Ans} {c d e : Bool} (ha : c = true → d = true → e = true → a = a') : guardDC k bs l i dst tm df h ab (c && d && e) a = guardDC k bs l i dst tm df h ab (c && d && e) a' := by
  cases c <;> cases d <;> cases e <;> first | rfl | (rw [ha rfl rfl rfl])
@[congr 1200] theorem guardD_congr4 {k : List Note → S → Ans} {bs : Tr Nat} {l : List Note} {i : Nat} {dst : Option Tmp} {tm : Tr Value} {df : List Deferred} {h : H} {ab : Option (List PanicEntry)} {r r' : Out} {c d e : Bool} (hr : c = true → d = true → e = true → r = r') : guardD ev k bs l i dst tm df h ab r (c && (d && e)) = guardD ev k bs l i dst tm df h ab r' (c && (d && e)) := by
  cases c <;> cases d <;> cases e <;> first | rfl | (rw [hr rfl rfl rfl])
@[congr 1200] theorem guardDC_congr4 {k : List Note → S → Ans} {bs : Tr Nat} {l : List Note} {i : Nat} {dst : Option Tmp} {tm : Tr Value} {df : List Deferred} {h : H} {ab : Option (List PanicEntry)} {a a' : Ans} {c d e : Bool} (ha : c = true → d = true → e = true → a = a') : guardDC k bs l i dst tm df h ab (c && (d && e)) a = guardDC k bs l i dst tm df h ab (c && (d && e)) a' := by
  cases c <;> cases d <;> cases e <;> first | rfl | (rw [ha rfl rfl rfl])
@[congr 1300] theorem guardD_congr5 {k : List Note → S → Ans} {bs : Tr Nat} {l : List Note} {i : Nat} {dst : Option Tmp} {tm : Tr Value} {df : List Deferred} {h : H} {ab : Option (List PanicEntry)} {r r' : Out} {c d e g : Bool} (hr : c = true → d = true → e = true → g = true → r = r') : guardD ev k bs l i dst tm df h ab r (c && d && e && g) = guardD ev k bs l i dst tm df h ab r' (c && d && e && g) := by
  cases c <;> cases d <;> cases e <;> cases g <;> first | rfl | (rw [hr rfl rfl rfl rfl])
@[congr 1300] theorem guardDC_congr5 {k : List Note → S → Ans} {bs : Tr Nat} {l : List Note} {i : Nat} {dst : Option Tmp} {tm : Tr Value} {df : List Deferred} {h : H} {ab : Option (List PanicEntry)} {a a' : Ans} {c d e g : Bool} (ha : c = true → d = true → e = true → g = true → a = a') : guardDC k bs l i dst tm df h ab (c && d && e && g) a = guardDC k bs l i dst tm df h ab (c && d && e && g) a' := by
  cases c <;> cases d <;> cases e <;> cases g <;> first | rfl | (rw [ha rfl rfl rfl rfl])
@[congr 1300] theorem guardD_congr6 {k : List Note → S → Ans} {bs : Tr Nat} {l : List Note} {i : Nat} {dst : Option Tmp} {tm : Tr Value} {df : List Deferred} {h : H} {ab : Option (List PanicEntry)} {r r' : Out} {c d e g : Bool} (hr : c = true → d = true → e = true → g = true → r = r') : guardD ev k bs l i dst tm df h ab r (c && (d && (e && g))) = guardD ev k bs l i dst tm df h ab r' (c && (d && (e && g))) := by
  cases c <;> cases d <;> cases e <;> cases g <;> first | rfl | (rw [hr rfl rfl rfl rfl])
@[congr 1300] theorem guardDC_congr6 {k : List Note → S → Ans} {bs : Tr Nat} {l : List Note} {i : Nat} {dst : Option Tmp} {tm : Tr Value} {df : List Deferred} {h : H} {ab : Option (List PanicEntry)} {a a' : Ans} {c d e g : Bool} (ha : c = true → d = true → e = true → g = true → a = a') : guardDC k bs l i dst tm df h ab (c && (d && (e && g))) a = guardDC k bs l i dst tm df h ab (c && (d && (e && g))) a' := by
  cases c <;> cases d <;> cases e <;> cases g <;> first | rfl | (rw [ha rfl rfl rfl rfl])
end Sym
end Go.Am
/- How a run of code ends: what holds of slots and memory, by the way it ends. -/
namespace Go.Am
open Go
variable {T : Tab} {P : Program}
/-- Normally, by return, or by leaving a block. -/
def EndsAs (N R : Tr Value → H → Prop) (X : Nat → Tr Value → H → Prop) : Ans → Prop
  | .code .normal ⟨tm, [], h, none⟩ => N tm h
  | .code .ret ⟨tm, [], h, none⟩ => R tm h
  | .code (.exit i) ⟨tm, [], h, none⟩ => X i tm h
  | _ => False
namespace Sym
@[simp] theorem ends_normal (N R : Tr Value → H → Prop) (X : Nat → Tr Value → H → Prop) (tm : Tr Value) (h : H) : EndsAs N R X (.code .normal ⟨tm, [], h, none⟩) = N tm h := rfl
@[simp] theorem ends_ret (N R : Tr Value → H → Prop) (X : Nat → Tr Value → H → Prop) (tm : Tr Value) (h : H) : EndsAs N R X (.code .ret ⟨tm, [], h, none⟩) = R tm h := rfl
@[simp] theorem ends_exit (N R : Tr Value → H → Prop) (X : Nat → Tr Value → H → Prop) (tm : Tr Value) (h : H) (i : Nat) : EndsAs N R X (.code (.exit i) ⟨tm, [], h, none⟩) = X i tm h := rfl
end Sym
theorem EndsAs.cases {N R : Tr Value → H → Prop} {X : Nat → Tr Value → H → Prop} {a : Ans} (h : EndsAs N R X a) :
    (∃ tm m, a = .code .normal ⟨tm, [], m, none⟩ ∧ N tm m) ∨ (∃ tm m, a = .code .ret ⟨tm, [], m, none⟩ ∧ R tm m) ∨ ∃ i tm m, a = .code (.exit i) ⟨tm, [], m, none⟩ ∧ X i tm m := by
  unfold EndsAs at h
  split at h
  · exact .inl ⟨_, _, rfl, h⟩
  · exact .inr (.inl ⟨_, _, rfl, h⟩)
  · exact .inr (.inr ⟨_, _, _, rfl, h⟩)
  · cases h
theorem EndsAs.mono {N R N' R' : Tr Value → H → Prop} {X X' : Nat → Tr Value → H → Prop} {a : Ans} (h : EndsAs N R X a) (hN : ∀ tm m, N tm m → N' tm m) (hR : ∀ tm m, R tm m → R' tm m) (hX : ∀ i tm m, X i tm m → X' i tm m) : EndsAs N' R' X' a := by
  rcases h.cases with ⟨tm, m, rfl, q⟩ | ⟨tm, m, rfl, q⟩ | ⟨i, tm, m, rfl, q⟩
  · exact hN _ _ q
  · exact hR _ _ q
  · exact hX _ _ _ q
/-- A loop: each round but the last comes nearer to the end. -/
theorem loop_ends {C : Con} {fr : Fr} {B : Code} (k : Nat) (I : Nat → Tr Value → H → Prop) (R : Tr Value → H → Prop) (X : Nat → Tr Value → H → Prop)
    (hstep : ∀ j tm h m, I j tm h → k ≤ m → EndsAs (fun tm' h' => ∃ j', j' < j ∧ I j' tm' h') R X (runCode T (evK T C m) fr B ⟨tm, [], h, none⟩)) :
    ∀ m j tm h, I j tm h → j + k ≤ m → EndsAs (fun _ _ => False) R X (runCode T (evK T C m) fr (.loop B) ⟨tm, [], h, none⟩) := by
  intro m
  induction m with
  | zero =>
    intro j tm h hI hm
    rcases (hstep j tm h 0 hI (by omega)).cases with ⟨tm', h', e, j', h1, _⟩ | ⟨tm', h', e, q⟩ | ⟨i, tm', h', e, q⟩
    · omega
    · rw [Sym.run_loop, e]; exact q
    · rw [Sym.run_loop, e]; exact q
  | succ m ih =>
    intro j tm h hI hm
    rcases (hstep j tm h (m + 1) hI (by omega)).cases with ⟨tm', h', e, j', h1, h2⟩ | ⟨tm', h', e, q⟩ | ⟨i, tm', h', e, q⟩
    · rw [Sym.run_loop, e, Sym.loopK_normal, evK_loop]
      exact ih j' tm' h' h2 (by omega)
    · rw [Sym.run_loop, e]; exact q
    · rw [Sym.run_loop, e]; exact q
/-- At a loop that the run has come to. -/
theorem at_loop {C : Con} {fr : Fr} {B : Code} {m : Nat} {tm : Tr Value} {h : H} {X : Ans} (hX : runCode T (evK T C m) fr (.loop B) ⟨tm, [], h, none⟩ = X) (k : Nat) (I : Nat → Tr Value → H → Prop) (R : Tr Value → H → Prop) (E : Nat → Tr Value → H → Prop) (j : Nat) (h0 : I j tm h) (hm : j + k ≤ m)
    (hstep : ∀ j tm h m, I j tm h → k ≤ m → EndsAs (fun tm' h' => ∃ j', j' < j ∧ I j' tm' h') R E (runCode T (evK T C m) fr B ⟨tm, [], h, none⟩)) :
    (∃ tm m, X = .code .ret ⟨tm, [], m, none⟩ ∧ R tm m) ∨ ∃ i tm m, X = .code (.exit i) ⟨tm, [], m, none⟩ ∧ E i tm m := by
  rcases (loop_ends k I R E hstep m j tm h h0 hm).cases with ⟨_, _, _, q⟩ | q | q
  · cases q
  · rw [← hX]; exact .inl q
  · rw [← hX]; exact .inr q
theorem ends_seq {N N' R : Tr Value → H → Prop} {X : Nat → Tr Value → H → Prop} {k : S → Ans} {a : Ans} (h1 : EndsAs N' R X a) (h2 : ∀ tm h, N' tm h → EndsAs N R X (k ⟨tm, [], h, none⟩)) : EndsAs N R X (seqK k a) := by
  rcases h1.cases with ⟨tm, m, rfl, q⟩ | ⟨tm, m, rfl, q⟩ | ⟨i, tm, m, rfl, q⟩
  · exact h2 _ _ q
  · exact q
  · exact q
theorem ends_block {N R : Tr Value → H → Prop} {X : Nat → Tr Value → H → Prop} {id : Nat} {a : Ans} (h : EndsAs N R (fun i tm m => (i = id → N tm m) ∧ (i ≠ id → X i tm m)) a) : EndsAs N R X (blockK id a) := by
  rcases h.cases with ⟨tm, m, rfl, q⟩ | ⟨tm, m, rfl, q⟩ | ⟨i, tm, m, rfl, q⟩
  · exact q
  · exact q
  · rw [Sym.blockK_exit]
    by_cases e : i = id
    · rw [nbeq_eq e]; exact q.1 e
    · rw [nbeq_ne e]; exact q.2 e
/-- A loop that is left by its block, or by return. -/
theorem ends_loop {C : Con} {fr : Fr} {B : Code} {m id : Nat} {tm : Tr Value} {h : H} {N R : Tr Value → H → Prop} {X : Nat → Tr Value → H → Prop} (k : Nat) (I : Nat → Tr Value → H → Prop) (j : Nat) (h0 : I j tm h) (hm : j + k ≤ m)
    (hstep : ∀ j tm h m, I j tm h → k ≤ m → EndsAs (fun tm' h' => ∃ j', j' < j ∧ I j' tm' h') R (fun i tm m => i = id ∧ N tm m) (runCode T (evK T C m) fr B ⟨tm, [], h, none⟩)) :
    EndsAs N R X (runCode T (evK T C m) fr (.block id (.loop B)) ⟨tm, [], h, none⟩) := by
  rw [Sym.run_block]
  exact ends_block ((loop_ends k I R (fun i tm m => i = id ∧ N tm m) hstep m j tm h h0 hm).mono (fun _ _ q => q.elim) (fun _ _ q => q) (fun i tm m q => ⟨fun _ => q.2, fun e => absurd q.1 e⟩))
theorem ends_seqC {ev : Task → Ans} {fr : Fr} {x y : Code} {s : S} {N N' R : Tr Value → H → Prop} {X : Nat → Tr Value → H → Prop} (h1 : EndsAs N' R X (runCode T ev fr x s)) (h2 : ∀ tm h, N' tm h → EndsAs N R X (runCode T ev fr y ⟨tm, [], h, none⟩)) :
    EndsAs N R X (runCode T ev fr (.seq x y) s) := by
  rw [Sym.run_seq]; exact ends_seq h1 h2
theorem seqK_assoc (k1 k2 : S → Ans) (a : Ans) : seqK k2 (seqK k1 a) = seqK (fun s => seqK k2 (k1 s)) a := by
  cases a with
  | code e s => cases e <;> rfl
  | _ => rfl
theorem ends_seq3 {ev : Task → Ans} {fr : Fr} {x y z : Code} {s : S} {N N' R : Tr Value → H → Prop} {X : Nat → Tr Value → H → Prop} (h1 : EndsAs N' R X (runCode T ev fr (.seq x y) s)) (h2 : ∀ tm h, N' tm h → EndsAs N R X (runCode T ev fr z ⟨tm, [], h, none⟩)) :
    EndsAs N R X (runCode T ev fr (.seq x (.seq y z)) s) := by
  have : runCode T ev fr (.seq x (.seq y z)) s = seqK (runCode T ev fr z) (runCode T ev fr (.seq x y) s) := by
    rw [Sym.run_seq, Sym.run_seq, seqK_assoc]; rfl
  rw [this]; exact ends_seq h1 h2
theorem fnE_ends (tok : TabOK T P) {β : Type} {g : FuncId} {fn : Func} {c : Code} {args : List Value} {r : β → Value} (C : Con) (hC : ConS T P C) (hp : PureL args) (hr : ∀ n, PureV (r n)) (n : Nat) (hT : T.func g = some fn) (hb : fn.body = some c)
    {t : Nat} (hrs : fn.results.toList = [.tmp t]) (hcode : EndsAs (fun tm _ => ∃ v, tm.get t = some (r v)) (fun tm _ => ∃ v, tm.get t = some (r v)) (fun _ _ _ => False) (runCode T (evK T C (n + 1)) ⟨g, none⟩ c ⟨initT args 0 .nil, [], H.empty, none⟩)) :
    ∃ v, ∀ h, CallS T P (.func (.func g) #[] #[]) args h none (.ret (r v) h none) := by
  refine fnE_of tok C hC hp hr n hT hb hrs ?_
  rcases hcode.cases with ⟨tm, m, e, v, q⟩ | ⟨tm, m, e, v, q⟩ | ⟨i, tm, m, e, q⟩
  · rw [e]; exact ⟨v, m, by simp [q]⟩
  · rw [e]; exact ⟨v, m, by simp [q]⟩
  · cases q
/-- A function of whose answer something is said. -/
theorem fnP {α β : Type} [Inhabited β] {g : FuncId} {pre : α → Prop} {enc : α → List Value} (r : β → Value) (Q : α → β → Prop) (hE : ∀ x, pre x → ∃ n, Q x n ∧ ∀ h, CallS T P (.func (.func g) #[] #[]) (enc x) h none (.ret (r n) h none)) :
    ∃ f : α → β, FnC T P g pre enc (fun x => r (f x)) ∧ ∀ x, pre x → Q x (f x) := by
  classical
  refine ⟨fun x => if hx : pre x then Classical.choose (hE x hx) else default, fun x hx h => ?_, fun x hx => ?_⟩
  · have := (Classical.choose_spec (hE x hx)).2 h
    simpa [dif_pos hx] using this
  · have := (Classical.choose_spec (hE x hx)).1
    simpa [dif_pos hx] using this
theorem fnP_ends (tok : TabOK T P) {β : Type} {g : FuncId} {fn : Func} {c : Code} {args : List Value} {r : β → Value} {Q : β → Prop} (C : Con) (hC : ConS T P C) (hp : PureL args) (hr : ∀ n, PureV (r n)) (n : Nat) (hT : T.func g = some fn) (hb : fn.body = some c)
    {t : Nat} (hrs : fn.results.toList = [.tmp t]) (hcode : EndsAs (fun tm _ => ∃ v, tm.get t = some (r v) ∧ Q v) (fun tm _ => ∃ v, tm.get t = some (r v) ∧ Q v) (fun _ _ _ => False) (runCode T (evK T C (n + 1)) ⟨g, none⟩ c ⟨initT args 0 .nil, [], H.empty, none⟩)) :
    ∃ v, Q v ∧ ∀ h, CallS T P (.func (.func g) #[] #[]) args h none (.ret (r v) h none) := by
  rcases hcode.cases with ⟨tm, m, e, v, q, hq⟩ | ⟨tm, m, e, v, q, hq⟩ | ⟨i, tm, m, e, q⟩
  · exact ⟨v, hq, fun h => fnC_of tok C hC hp (n + 1) (fn_run hT hb hrs (vs := [r v]) (h2 := m) (by rw [e]; simp [q])) (.pure (hr v)) h⟩
  · exact ⟨v, hq, fun h => fnC_of tok C hC hp (n + 1) (fn_run hT hb hrs (vs := [r v]) (h2 := m) (by rw [e]; simp [q])) (.pure (hr v)) h⟩
  · cases q
end Go.Am
