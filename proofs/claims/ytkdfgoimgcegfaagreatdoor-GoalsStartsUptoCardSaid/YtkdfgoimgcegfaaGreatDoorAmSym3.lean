/- Equations by which a region that draws its order is worked out, where all blocks are the caller's own: for simp. -/
import Derived.Test.YtkdfgoimgcegfaaGreatDoorAmTask
set_option linter.unusedSectionVars false
set_option linter.unusedSimpArgs false
set_option linter.unusedVariables false
namespace Go.Am
open Go
variable {T : Tab} {ev : Task → Ans} {fr : Fr}
theorem rangeBits_self (a : Nat) : rangeBits a a = 0 := by
  apply Nat.eq_of_testBit_eq
  intro x
  cases hx : (rangeBits a a).testBit x with
  | false => simp
  | true => have := (rangeBits_spec _ _ _).1 hx; omega
theorem rangeBits_one (a : Nat) : rangeBits a (a + 1) = bit a := by
  apply Nat.eq_of_testBit_eq
  intro x
  have h1 := rangeBits_spec a (a + 1) x
  cases hx : (bit a).testBit x with
  | true => rw [testBit_bit_eq hx]; exact (rangeBits_spec a (a + 1) a).2 ⟨Nat.le_refl _, by omega⟩
  | false =>
    cases hy : (rangeBits a (a + 1)).testBit x with
    | false => rfl
    | true =>
      obtain ⟨q1, q2⟩ := h1.1 hy
      have : x = a := by omega
      subst this
      rw [testBit_bit] at hx; cases hx
theorem bit_ne (b : Nat) : Nat.beq (bit b) 0 = false := nbeq_ne (by
  intro e
  have := testBit_bit b
  rw [e] at this; simp at this)
theorem zero_lor (n : Nat) : Nat.lor 0 n = n := Nat.zero_or n
theorem lor_zero (n : Nat) : Nat.lor n 0 = n := Nat.or_zero n
theorem disj_bits {a b : Nat} (h : a ≠ b) : disj (bit a) (bit b) = true := by
  unfold disj
  apply nbeq_eq
  apply Nat.eq_of_testBit_eq
  intro x
  show (bit a &&& bit b).testBit x = _
  rw [Nat.testBit_and]
  cases h1 : (bit a).testBit x with
  | false => simp
  | true =>
    cases h2 : (bit b).testBit x with
    | false => simp
    | true => exact absurd ((testBit_bit_eq h1).symm.trans (testBit_bit_eq h2)) h
theorem disj_lor_left (a b c : Nat) : disj (Nat.lor a b) c = (disj a c && disj b c) := by
  have e : ∀ x y : Nat, disj x y = true ↔ x &&& y = 0 := fun x y => ⟨fun h => nbeq_true h, fun h => nbeq_eq h⟩
  have q : (Nat.lor a b) &&& c = (a &&& c) ||| (b &&& c) := Nat.and_or_distrib_right ..
  cases h1 : disj a c <;> cases h2 : disj b c
  · cases h3 : disj (Nat.lor a b) c with
    | false => rfl
    | true =>
      rw [e, q] at h3
      have h4 : a &&& c = 0 := (Nat.or_eq_zero_iff.1 h3).1
      rw [← e, h1] at h4; cases h4
  · cases h3 : disj (Nat.lor a b) c with
    | false => rfl
    | true =>
      rw [e, q] at h3
      have h4 : a &&& c = 0 := (Nat.or_eq_zero_iff.1 h3).1
      rw [← e, h1] at h4; cases h4
  · cases h3 : disj (Nat.lor a b) c with
    | false => rfl
    | true =>
      rw [e, q] at h3
      have h4 : b &&& c = 0 := (Nat.or_eq_zero_iff.1 h3).2
      rw [← e, h2] at h4; cases h4
  · show disj (Nat.lor a b) c = true
    rw [e] at h1 h2 ⊢
    rw [q, h1, h2]; rfl
theorem disj_symm (a b : Nat) : disj a b = disj b a := by
  unfold disj
  rw [show Nat.land a b = a &&& b from rfl, Nat.and_comm]; rfl
theorem disj_lor_right (a b c : Nat) : disj c (Nat.lor a b) = (disj c a && disj c b) := by
  rw [disj_symm, disj_lor_left, disj_symm a, disj_symm b]
/-- Nothing was written. -/
def qn (l : List Note) : Bool := l.all (fun x => x.wr == 0)
@[simp] theorem qn_nil : qn [] = true := by simp [qn]
@[simp] theorem qn_cons (i r w : Nat) (l : List Note) : qn (⟨i, r, w⟩ :: l) = (w == 0 && qn l) := by simp [qn]
theorem apart_quiet (bj i r : Nat) : ∀ l, qn l = true → apartAll bj ⟨i, r, 0⟩ l = true
  | [], _ => rfl
  | x :: l, h => by
    obtain ⟨j, rd, wr⟩ := x
    rw [qn_cons] at h
    simp at h
    rw [apartAll_cons, apart_quiet bj i r l h.2, h.1]
    unfold apart
    rw [disj_zero_left, disj_zero_left, disj_zero_left]
    cases hasBit bj j <;> rfl
namespace Sym
@[simp] theorem fresh_get (h : H) (b : Nat) : h.fresh.get b = h.get b := by cases h; rfl
@[simp] theorem fresh_next (h : H) : h.fresh.next = h.next := by cases h; rfl
@[simp] theorem fresh_base (h : H) : h.fresh.base = h.next := by cases h; rfl
@[simp ↓] theorem reg_drawn (ops : Array Oper) (s : S) : runRegion T ev fr ops true s = runDrawn T ev ops (befores ops.toList 0 .nil) ops.toList 0 [] s := rfl
@[simp] theorem drawn_nil (all : Array Oper) (bs : Tr Nat) (i : Nat) (l : List Note) (s : S) : runDrawn T ev all bs [] i l s = .code .normal s := rfl
/-- What becomes of an answer, where it was wanted. -/
noncomputable def resD (ev : Task → Ans) (k : List Note → S → Ans) (bs : Tr Nat) (l : List Note) (i : Nat) (dst : Option Tmp) (tm : Tr Value) (df : List Deferred) (h : H) (ab : Option (List PanicEntry)) (r : Out) : Ans :=
  drawnRes ev k h.next h.base h.rd h.wr bs l i dst tm df h.fresh ab r
noncomputable def callD (k : List Note → S → Ans) (bs : Tr Nat) (l : List Note) (i : Nat) (dst : Option Tmp) (tm : Tr Value) (df : List Deferred) (h : H) (ab : Option (List PanicEntry)) (a : Ans) : Ans :=
  drawnCall k h.next h.base h.rd h.wr bs l i dst tm df ab a
noncomputable def doneD (k : List Note → S → Ans) (bs : Tr Nat) (l : List Note) (i : Nat) (tm : Tr Value) (df : List Deferred) (h : H) (ab : Option (List PanicEntry)) (h1 : H) : Ans :=
  drawnDone k h.next h.base h.rd h.wr bs l i tm df ab h1
noncomputable def guardD (ev : Task → Ans) (k : List Note → S → Ans) (bs : Tr Nat) (l : List Note) (i : Nat) (dst : Option Tmp) (tm : Tr Value) (df : List Deferred) (h : H) (ab : Option (List PanicEntry)) (r : Out) (b : Bool) : Ans :=
  cond b (resD ev k bs l i dst tm df h ab r) (k l ⟨putT tm undef dst, df, h, ab⟩)
noncomputable def guardDO (ev : Task → Ans) (k : List Note → S → Ans) (bs : Tr Nat) (l : List Note) (i : Nat) (dst : Option Tmp) (tm : Tr Value) (df : List Deferred) (h : H) (ab : Option (List PanicEntry)) (r : Out) : Option Bool → Ans
  | some b => guardD ev k bs l i dst tm df h ab r b
  | none => .fail
noncomputable def guardDC (k : List Note → S → Ans) (bs : Tr Nat) (l : List Note) (i : Nat) (dst : Option Tmp) (tm : Tr Value) (df : List Deferred) (h : H) (ab : Option (List PanicEntry)) (b : Bool) (a : Ans) : Ans :=
  cond b (callD k bs l i dst tm df h ab a) (k l ⟨putT tm undef dst, df, h, ab⟩)
section
variable (all : Array Oper) (bs : Tr Nat) (i : Nat) (dst : Option Tmp) (op : Op) (ty : TypeId) (pos : String) (after : Array Edge) (r : List Oper) (l : List Note) (tm : Tr Value) (df : List Deferred) (h : H) (ab : Option (List PanicEntry)) (k : List Note → S → Ans)
@[simp ↓] theorem drawn_cons : runDrawn T ev all bs (⟨dst, op, ty, pos, after, none⟩ :: r) i l ⟨tm, df, h, ab⟩ = resD ev (runDrawn T ev all bs r (i + 1)) bs l i dst tm df h ab (execOp T tm ty h.fresh op) := rfl
@[simp ↓] theorem drawn_consG (g : Nat × Bool) : runDrawn T ev all bs (⟨dst, op, ty, pos, after, some g⟩ :: r) i l ⟨tm, df, h, ab⟩ = guardDO ev (runDrawn T ev all bs r (i + 1)) bs l i dst tm df h ab (execOp T tm ty h.fresh op) (boolIs g.2 (yieldedT tm all.toList[g.1]?)) := by
  show onO .fail (fun b => onB (runDrawn T ev all bs r (i + 1) l ⟨putT tm undef dst, df, h, ab⟩) (resD ev (runDrawn T ev all bs r (i + 1)) bs l i dst tm df h ab (execOp T tm ty h.fresh op)) b) (boolIs g.2 (yieldedT tm all.toList[g.1]?)) = _
  cases boolIs g.2 (yieldedT tm all.toList[g.1]?) with
  | none => rfl
  | some b => cases b <;> rfl
@[congr] theorem guardDO_congr {r : Out} {o o' : Option Bool} (ho : o = o') : guardDO ev k bs l i dst tm df h ab r o = guardDO ev k bs l i dst tm df h ab r o' := by rw [ho]
@[simp] theorem guardDO_some (r : Out) (b : Bool) : guardDO ev k bs l i dst tm df h ab r (some b) = guardD ev k bs l i dst tm df h ab r b := rfl
@[simp] theorem resD_val (v : Value) (h1 : H) : resD ev k bs l i dst tm df h ab (.of (.val v h1)) = doneD k bs l i (putT tm v dst) df h ab h1 := rfl
@[simp] theorem resD_call (f : Value) (args : List Value) : resD ev k bs l i dst tm df h ab (.call f args) = callD k bs l i dst tm df h ab (ev (.call f args h.fresh none)) := rfl
@[simp] theorem callD_ret (v : Value) (h1 : H) (ab' : Option (List PanicEntry)) : callD k bs l i dst tm df h ab (.ret v h1 ab') = doneD k bs l i (putT tm v dst) df h ab h1 := rfl
@[simp] theorem guardD_true (r : Out) : guardD ev k bs l i dst tm df h ab r true = resD ev k bs l i dst tm df h ab r := rfl
@[simp] theorem guardD_false (r : Out) : guardD ev k bs l i dst tm df h ab r false = k l ⟨putT tm undef dst, df, h, ab⟩ := rfl
@[simp] theorem guardD_call (f : Value) (args : List Value) (b : Bool) : guardD ev k bs l i dst tm df h ab (.call f args) b = guardDC k bs l i dst tm df h ab b (ev (.call f args h.fresh none)) := by cases b <;> rfl
@[simp] theorem done_fresh : doneD k bs l i tm df h ab h.fresh = k l ⟨tm, df, h, ab⟩ := by
  obtain ⟨m, n, b0, rd, wr⟩ := h
  show forceN (fun w' => drawnNote k b0 rd wr bs l i tm df ab m n 0 0 w') (Nat.lor 0 (rangeBits n n)) = _
  rw [forceN_eq, rangeBits_self]
  rfl
theorem done_note {h : H} {h1 : H} {rd wr : Nat} (hb : h.base = 0) (hr : h1.rd = rd) (hw : wrN h h1 = wr) (hz : (Nat.beq rd 0 && Nat.beq wr 0) = false) (ha : apartAll (beforeOf bs i) ⟨i, rd, wr⟩ l = true) :
    doneD k bs l i tm df h ab h1 = k (⟨i, rd, wr⟩ :: l) ⟨tm, df, ⟨h1.m, h1.next, h.base, h.rd, h.wr⟩, ab⟩ := by
  obtain ⟨m1, n1, b1, r1, w1⟩ := h1
  obtain ⟨m, n, b0, r0, w0⟩ := h
  have hb : b0 = 0 := hb
  subst hb
  have hr : r1 = rd := hr
  subst hr
  show forceN (fun w' => drawnNote k 0 r0 w0 bs l i tm df ab m1 n1 r1 w1 w') (Nat.lor w1 (rangeBits n n1)) = _
  rw [forceN_eq]
  have hw : Nat.lor w1 (rangeBits n n1) = wr := hw
  rw [hw]
  unfold drawnNote
  have : cond (Nat.beq r1 0) (Nat.beq wr 0) false = false := by
    cases h1 : Nat.beq r1 0 <;> cases h2 : Nat.beq wr 0 <;> simp [h1, h2] at hz ⊢
  rw [this, cond_false, ha, cond_true]; rfl
@[simp] theorem done_touch {b : Nat} (hb : h.base = 0) (hlt : b < h.next) (hq : qn l = true) : doneD k bs l i tm df h ab (h.fresh.touch b) = k (⟨i, bit b, 0⟩ :: l) ⟨tm, df, h, ab⟩ := by
  have e : h.fresh.touch b = ⟨h.m, h.next, h.next, bit b, 0⟩ := by
    rw [touch_eq, if_neg (by rw [fresh_base]; omega), fresh_eq]
    show (⟨_, _, _, Nat.lor 0 (bit b), _⟩ : H) = _
    rw [zero_lor]
  rw [e, done_note (rd := bit b) (wr := 0) (hb := hb) (hr := rfl) (hw := by show Nat.lor 0 (rangeBits h.next h.next) = 0; rw [rangeBits_self]; rfl) (hz := by rw [bit_ne]; rfl) (ha := apart_quiet _ _ _ _ hq)]
@[simp] theorem guardD_val (v : Value) (b : Bool) (d : Tmp) : guardD ev k bs l i (some d) tm df h ab (.of (.val v h.fresh)) b = k l ⟨tm.set d (onB undef v b), df, h, ab⟩ := by
  cases b
  · rfl
  · exact done_fresh ..
/-- A note, if there is something. -/
def noteIf (b : Bool) (i r : Nat) (l : List Note) : List Note := cond b (⟨i, r, 0⟩ :: l) l
@[simp] theorem qn_noteIf (b : Bool) (i r : Nat) (l : List Note) : qn (noteIf b i r l) = qn l := by cases b <;> rfl
@[simp] theorem guardD_touch (v : Value) (b : Bool) (d : Tmp) {c : Nat} (hb : h.base = 0) (hlt : c < h.next) (hq : qn l = true) :
    guardD ev k bs l i (some d) tm df h ab (.of (.val v (h.fresh.touch c))) b = k (noteIf b i (bit c) l) ⟨tm.set d (onB undef v b), df, h, ab⟩ := by
  cases b
  · rfl
  · exact done_touch (hb := hb) (hlt := hlt) (hq := hq) ..
@[simp] theorem guardDC_ret (v : Value) (ab' : Option (List PanicEntry)) (b : Bool) (d : Tmp) : guardDC k bs l i (some d) tm df h ab b (.ret v h.fresh ab') = k l ⟨tm.set d (onB undef v b), df, h, ab⟩ := by
  cases b
  · rfl
  · exact done_fresh ..
@[simp] theorem done_new (o : AObj) (hb : h.base = 0) (ha : apartAll (beforeOf bs i) ⟨i, 0, bit h.next⟩ l = true) : doneD k bs l i tm df h ab (h.fresh.new o) = k (⟨i, 0, bit h.next⟩ :: l) ⟨tm, df, h.new o, ab⟩ := by
  rw [done_note (rd := 0) (wr := bit h.next) (hb := hb) (hr := by rw [new_eq, fresh_eq]) (hw := by rw [new_eq, fresh_eq]; show Nat.lor 0 (rangeBits h.next (h.next + 1)) = _; rw [rangeBits_one, zero_lor]) (hz := by rw [bit_ne]; rfl) (ha := ha)]
  rw [new_eq, new_eq, fresh_eq]
theorem done_put (o : AObj) {b : Nat} (hb : h.base = 0) (hlt : b < h.next) (ha : apartAll (beforeOf bs i) ⟨i, bit b, bit b⟩ l = true) : doneD k bs l i tm df h ab (h.fresh.put b o) = k (⟨i, bit b, bit b⟩ :: l) ⟨tm, df, h.put b o, ab⟩ := by
  have e : h.fresh.put b o = ⟨h.m.set b o, h.next, h.next, bit b, bit b⟩ := by
    rw [H.put, putM_eq, mark_eq, if_neg (by rw [fresh_base]; omega), fresh_eq]
    show (⟨_, _, _, Nat.lor 0 (bit b), Nat.lor 0 (bit b)⟩ : H) = _
    rw [zero_lor]
  have e2 : h.put b o = ⟨h.m.set b o, h.next, h.base, h.rd, h.wr⟩ := by
    rw [H.put, putM_eq, mark_eq, if_pos (by omega)]
  rw [e, done_note (rd := bit b) (wr := bit b) (hb := hb) (hr := rfl) (hw := by show Nat.lor (bit b) (rangeBits h.next h.next) = _; rw [rangeBits_self, lor_zero]) (hz := by rw [bit_ne]; rfl) (ha := ha), e2]
end
@[congr] theorem guardD_congr {k : List Note → S → Ans} {bs : Tr Nat} {l : List Note} {i : Nat} {dst : Option Tmp} {tm : Tr Value} {df : List Deferred} {h : H} {ab : Option (List PanicEntry)} {r r' : Out} {b : Bool} (hr : b = true → r = r') : guardD ev k bs l i dst tm df h ab r b = guardD ev k bs l i dst tm df h ab r' b := by
  cases b <;> first | rfl | (rw [hr rfl])
@[congr] theorem guardDC_congr {k : List Note → S → Ans} {bs : Tr Nat} {l : List Note} {i : Nat} {dst : Option Tmp} {tm : Tr Value} {df : List Deferred} {h : H} {ab : Option (List PanicEntry)} {a a' : Ans} {b : Bool} (ha : b = true → a = a') : guardDC k bs l i dst tm df h ab b a = guardDC k bs l i dst tm df h ab b a' := by
  cases b <;> first | rfl | (rw [ha rfl])
@[congr 1100] theorem guardD_congr2 {k : List Note → S → Ans} {bs : Tr Nat} {l : List Note} {i : Nat} {dst : Option Tmp} {tm : Tr Value} {df : List Deferred} {h : H} {ab : Option (List PanicEntry)} {r r' : Out} {c d : Bool} (hr : c = true → d = true → r = r') : guardD ev k bs l i dst tm df h ab r (c && d) = guardD ev k bs l i dst tm df h ab r' (c && d) := by
  cases c <;> cases d <;> first | rfl | (rw [hr rfl rfl])
@[congr 1100] theorem guardDC_congr2 {k : List Note → S → Ans} {bs : Tr Nat} {l : List Note} {i : Nat} {dst : Option Tmp} {tm : Tr Value} {df : List Deferred} {h : H} {ab : Option (List PanicEntry)} {a a' : Ans} {c d : Bool} (ha : c = true → d = true → a = a') : guardDC k bs l i dst tm df h ab (c && d) a = guardDC k bs l i dst tm df h ab (c && d) a' := by
  cases c <;> cases d <;> first | rfl | (rw [ha rfl rfl])
@[congr 1200] theorem guardD_congr3 {k : List Note → S → Ans} {bs : Tr Nat} {l : List Note} {i : Nat} {dst : Option Tmp} {tm : Tr Value} {df : List Deferred} {h : H} {ab : Option (List PanicEntry)} {r r' : Out} {c d e : Bool} (hr : c = true → d = true → e = true → r = r') : guardD ev k bs l i dst tm df h ab r (c && d && e) = guardD ev k bs l i dst tm df h ab r' (c && d && e) := by
  cases c <;> cases d <;> cases e <;> first | rfl | (rw [hr rfl rfl rfl])
@[congr 1200] theorem guardDC_congr3 {k : List Note → S → Ans} {bs : Tr Nat} {l : List Note} {i : Nat} {dst : Option Tmp} {tm : Tr Value} {df : List Deferred} {h : H} {ab : Option (List PanicEntry)} {a a' : Ans} {c d e : Bool} (ha : c = true → d = true → e = true → a = a') : guardDC k bs l i dst tm df h ab (c && d && e) a = guardDC k bs l i dst tm df h ab (c && d && e) a' := by
  cases c <;> cases d <;> cases e <;> first | rfl | (rw [ha rfl rfl rfl])
@[congr 1200] theorem guardD_congr4 {k : List Note → S → Ans} {bs : Tr Nat} {l : List Note} {i : Nat} {dst : Option Tmp} {tm : Tr Value} {df : List Deferred} {h : H} {ab : Option (List PanicEntry)} {r r' : Out} {c d e : Bool} (hr : c = true → d = true → e = true → r = r') : guardD ev k bs l i dst tm df h ab r (c && (d && e)) = guardD ev k bs l i dst tm df h ab r' (c && (d && e)) := by
  cases c <;> cases d <;> cases e <;> first | rfl | (rw [hr rfl rfl rfl])
@[congr 1200] theorem guardDC_congr4 {k : List Note → S → Ans} {bs : Tr Nat} {l : List Note} {i : Nat} {dst : Option Tmp} {tm : Tr Value} {df : List Deferred} {h : H} {ab : Option (List PanicEntry)} {a a' : Ans} {c d e : Bool} (ha : c = true → d = true → e = true → a = a') : guardDC k bs l i dst tm df h ab (c && (d && e)) a = guardDC k bs l i dst tm df h ab (c && (d && e)) a' := by
  cases c <;> cases d <;> cases e <;> first | rfl | (rw [ha rfl rfl rfl])
@[congr 1300] theorem guardD_congr5 {k : List Note → S → Ans} {bs : Tr Nat} {l : List Note} {i : Nat} {dst : Option Tmp} {tm : Tr Value} {df : List Deferred} {h : H} {ab : Option (List PanicEntry)} {r r' : Out} {c d e g : Bool} (hr : c = true → d = true → e = true → g = true → r = r') : guardD ev k bs l i dst tm df h ab r (c && d && e && g) = guardD ev k bs l i dst tm df h ab r' (c && d && e && g) := by
  cases c <;> cases d <;> cases e <;> cases g <;> first | rfl | (rw [hr rfl rfl rfl rfl])
@[congr 1300] theorem guardDC_congr5 {k : List Note → S → Ans} {bs : Tr Nat} {l : List Note} {i : Nat} {dst : Option Tmp} {tm : Tr Value} {df : List Deferred} {h : H} {ab : Option (List PanicEntry)} {a a' : Ans} {c d e g : Bool} (ha : c = true → d = true → e = true → g = true → a = a') : guardDC k bs l i dst tm df h ab (c && d && e && g) a = guardDC k bs l i dst tm df h ab (c && d && e && g) a' := by
  cases c <;> cases d <;> cases e <;> cases g <;> first | rfl | (rw [ha rfl rfl rfl rfl])
@[congr 1300] theorem guardD_congr6 {k : List Note → S → Ans} {bs : Tr Nat} {l : List Note} {i : Nat} {dst : Option Tmp} {tm : Tr Value} {df : List Deferred} {h : H} {ab : Option (List PanicEntry)} {r r' : Out} {c d e g : Bool} (hr : c = true → d = true → e = true → g = true → r = r') : guardD ev k bs l i dst tm df h ab r (c && (d && (e && g))) = guardD ev k bs l i dst tm df h ab r' (c && (d && (e && g))) := by
  cases c <;> cases d <;> cases e <;> cases g <;> first | rfl | (rw [hr rfl rfl rfl rfl])
@[congr 1300] theorem guardDC_congr6 {k : List Note → S → Ans} {bs : Tr Nat} {l : List Note} {i : Nat} {dst : Option Tmp} {tm : Tr Value} {df : List Deferred} {h : H} {ab : Option (List PanicEntry)} {a a' : Ans} {c d e g : Bool} (ha : c = true → d = true → e = true → g = true → a = a') : guardDC k bs l i dst tm df h ab (c && (d && (e && g))) a = guardDC k bs l i dst tm df h ab (c && (d && (e && g))) a' := by
  cases c <;> cases d <;> cases e <;> cases g <;> first | rfl | (rw [ha rfl rfl rfl rfl])
end Sym
end Go.Am
