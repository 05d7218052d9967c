/- A region that draws its order: the trace of the abstract run. -/
import Derived.Test.YtkdfgoimgcegfaaGreatDoorAmCtl
import Derived.Orders
set_option linter.unusedSectionVars false
set_option linter.unusedSimpArgs false
set_option linter.unusedVariables false
namespace Go.Am
open Go
variable {T : Tab} {P : Program}

/-! ### Bits -/
theorem hasBit_eq (n i : Nat) : hasBit n i = n.testBit i := by
  unfold hasBit
  have h1 : Nat.land (Nat.shiftRight n i) 1 = (n >>> i) &&& 1 := rfl
  rw [h1, Nat.and_one_is_mod, Nat.testBit_eq_decide_div_mod_eq, Nat.shiftRight_eq_div_pow]
  cases e : Nat.beq (n / 2 ^ i % 2) 1 with
  | true => rw [nbeq_true e]; rfl
  | false => simp [nbeq_false e]
theorem disj_spec {a b : Nat} (h : disj a b = true) (x : Nat) : a.testBit x = true → b.testBit x = true → False := by
  intro ha hb
  have h0 : a &&& b = 0 := nbeq_true h
  have := Nat.testBit_and a b x
  rw [h0, ha, hb] at this
  simp at this
theorem disj_zero_right (a : Nat) : disj a 0 = true := by
  unfold disj
  have : Nat.land a 0 = a &&& 0 := rfl
  rw [this, Nat.and_zero]; rfl
theorem disj_zero_left (a : Nat) : disj 0 a = true := by
  unfold disj
  have : Nat.land 0 a = 0 &&& a := rfl
  rw [this, Nat.zero_and]; rfl
theorem rangeBits_spec (a b x : Nat) : (rangeBits a b).testBit x = true ↔ a ≤ x ∧ x < b := by
  unfold rangeBits
  have h1 : Nat.shiftLeft (Nat.sub (bit (Nat.sub b a)) 1) a = (2 ^ (b - a) - 1) <<< a := by
    have : bit (Nat.sub b a) = 2 ^ (b - a) := by
      have : bit (Nat.sub b a) = 1 <<< (b - a) := rfl
      rw [this, Nat.one_shiftLeft]
    rw [this]; rfl
  rw [h1, Nat.testBit_shiftLeft, Nat.testBit_two_pow_sub_one]
  simp
  omega

/-! ### What comes before -/
theorem edgesBefore_cons (bs : Tr Nat) (e : Edge) (l : List Edge) : edgesBefore bs (e :: l) = cond (bindsAny e) (Nat.lor (edgesBefore bs l) (Nat.lor (bit e.on) (match bs.get e.on with | some n => n | none => 0))) (edgesBefore bs l) := rfl
theorem testBit_lor {a b x : Nat} (h : (Nat.lor a b).testBit x = true) : a.testBit x = true ∨ b.testBit x = true := by
  have : Nat.lor a b = a ||| b := rfl
  rw [this, Nat.testBit_or, Bool.or_eq_true] at h
  exact h
theorem testBit_bit_eq {b x : Nat} (h : (bit b).testBit x = true) : x = b := by
  have : bit b = 1 <<< b := rfl
  rw [this, Nat.one_shiftLeft, Nat.testBit_two_pow] at h
  exact (of_decide_eq_true h).symm
theorem edgesBefore_bit {bs : Tr Nat} {j : Nat} : ∀ {l : List Edge}, (edgesBefore bs l).testBit j = true → ∃ e ∈ l, bindsAny e = true ∧ (e.on = j ∨ (beforeOf bs e.on).testBit j = true)
  | [], h => by have : (0 : Nat).testBit j = true := h; simp at this
  | e :: l, h => by
    rw [edgesBefore_cons] at h
    cases hb : bindsAny e with
    | false =>
      rw [hb] at h
      obtain ⟨x, h1, h2⟩ := edgesBefore_bit (l := l) h
      exact ⟨x, by simp [h1], h2⟩
    | true =>
      rw [hb, cond_true] at h
      rcases testBit_lor h with h | h
      · obtain ⟨x, h1, h2⟩ := edgesBefore_bit (l := l) h
        exact ⟨x, by simp [h1], h2⟩
      · rcases testBit_lor h with h | h
        · exact ⟨e, by simp, hb, .inl (testBit_bit_eq h).symm⟩
        · exact ⟨e, by simp, hb, .inr h⟩
theorem befores_cons (o : Oper) (l : List Oper) (i : Nat) (bs : Tr Nat) : befores (o :: l) i bs = befores l (i + 1) (bs.set i (edgesBefore bs o.after.toList)) := rfl
theorem befores_below : ∀ (l : List Oper) (i : Nat) (bs : Tr Nat) (j : Nat), j < i → (befores l i bs).get j = bs.get j
  | [], _, _, _, _ => rfl
  | o :: l, i, bs, j, h => by
    rw [befores_cons, befores_below l (i + 1) _ j (by omega), Tr.get_set_ne _ _ (by omega)]
theorem befores_at (l : List Oper) : ∀ (i : Nat) (bs : Tr Nat) (k : Nat) (o : Oper) (n : Nat), l[k]? = some o → (befores l i bs).get (i + k) = some n → (∀ e ∈ o.after.toList, bindsAny e = true → e.on < i + k) →
    ∃ bs', n = edgesBefore bs' o.after.toList ∧ ∀ j, j < i + k → bs'.get j = (befores l i bs).get j := by
  induction l with
  | nil => intro i bs k o n ho; simp at ho
  | cons o' l ih =>
    intro i bs k o n ho hn he
    rw [befores_cons] at hn ⊢
    cases k with
    | zero =>
      simp at ho
      subst ho
      replace hn : (befores l (i + 1) (bs.set i (edgesBefore bs o'.after.toList))).get i = some n := hn
      rw [befores_below l (i + 1) _ i (by omega)] at hn
      have := Tr.get_set_eq _ hn
      subst this
      refine ⟨bs, rfl, fun j hj => ?_⟩
      rw [befores_below l (i + 1) _ j (by omega), Tr.get_set_ne _ _ (by omega)]
    | succ k =>
      have ho' : l[k]? = some o := by simpa using ho
      have hadd : i + (k + 1) = i + 1 + k := by omega
      rw [hadd] at hn he
      obtain ⟨bs', h1, h2⟩ := ih (i + 1) _ k o n ho' hn he
      exact ⟨bs', h1, fun j hj => h2 j (by omega)⟩
/-- What the table says comes before an operation does so by its edges. -/
theorem before_bit {l : List Oper} {i : Nat} {o : Oper} (ho : l[i]? = some o) (he : ∀ e ∈ o.after.toList, bindsAny e = true → e.on < i) {j : Nat} (h : (beforeOf (befores l 0 .nil) i).testBit j = true) :
    ∃ e ∈ o.after.toList, bindsAny e = true ∧ (e.on = j ∨ (beforeOf (befores l 0 .nil) e.on).testBit j = true) := by
  unfold beforeOf at h
  cases hg : (befores l 0 .nil).get i with
  | none => rw [hg] at h; simp at h
  | some n =>
    rw [hg] at h
    obtain ⟨bs', h1, h2⟩ := befores_at l 0 .nil i o n ho (by simpa using hg) (by simpa using he)
    subst h1
    obtain ⟨e, q1, q2, q3⟩ := edgesBefore_bit h
    refine ⟨e, q1, q2, q3.imp id fun q => ?_⟩
    unfold beforeOf at q ⊢
    rw [h2 e.on (by have := he e q1 q2; omega)] at q
    exact q

/-! ### The trace -/
structure Tc where
  tm : Nat → Tr Value
  h : Nat → H
  v : Nat → Value
  h1 : Nat → H
def DoneS (T : Tab) (P : Program) (all : Array Oper) (i : Nat) (o : Oper) (tm : Tr Value) (h : H) (v : Value) (h1 : H) : Prop :=
  (Am.wanted all tm o.guard = some false ∧ v = undef ∧ h1 = h.fresh) ∨
  (Am.wanted all tm o.guard = some true ∧ Le h.fresh h1 ∧ ∀ Γ m hD w (b : Frame) rest k a cs, Fin Γ h1 → Inv T Γ m hD h.fresh w → OpRel tm a.eval (opnds o.op) m → Region.wanted o (yielded all a.tmps) = true →
    ∃ v' m' hD' w', MLe m m' ∧ VR m' v v' ∧ Inv T Γ m' hD' h1 w' ∧ Steps P (lone (b.atR a (.inRegion all (i :: rest) :: k)) cs w) (lone (b.atR (a.put o.dst v') (.inRegion all rest :: k)) cs w'))
def wrN (h h1 : H) : Nat := Nat.lor h1.wr (rangeBits h.next h1.next)
def Tc.note (c : Tc) (k : Nat) : Note := ⟨k, (c.h1 k).rd, wrN (c.h k) (c.h1 k)⟩
structure Outer (h h1 h' : H) : Prop where
  get : ∀ b, h'.get b = h1.get b
  next : h'.next = h1.next
  base : h'.base = h.base
  rd0 : ∀ b, h.rd.testBit b = true → h'.rd.testBit b = true
  wr0 : ∀ b, h.wr.testBit b = true → h'.wr.testBit b = true
  rd : ∀ b, h1.rd.testBit b = true → h'.base ≤ b ∨ h'.rd.testBit b = true
  wr : ∀ b, h1.wr.testBit b = true → h'.base ≤ b ∨ h'.wr.testBit b = true
structure TraceS (T : Tab) (P : Program) (all : Array Oper) (bs : Tr Nat) (i n : Nat) (notes : List Note) (tmS : Tr Value) (hS : H) (tmE : Tr Value) (hE : H) (c : Tc) : Prop where
  tm0 : c.tm i = tmS
  h0 : c.h i = hS
  tmn : c.tm n = tmE
  hn : c.h n = hE
  step : ∀ k, i ≤ k → k < n → ∃ o, all[k]? = some o ∧ DoneS T P all k o (c.tm k) (c.h k) (c.v k) (c.h1 k) ∧ c.tm (k + 1) = putT (c.tm k) (c.v k) o.dst ∧ Outer (c.h k) (c.h1 k) (c.h (k + 1))
  apart : ∀ j k, i ≤ j → j < k → k < n → Am.apart (beforeOf bs k) (c.note k) (c.note j) = true
  noted : ∀ x ∈ notes, ∀ k, i ≤ k → k < n → Am.apart (beforeOf bs k) (c.note k) x = true

theorem fresh_eq (h : H) : h.fresh = ⟨h.m, h.next, h.next, 0, 0⟩ := by cases h; rfl
theorem apart_zero (bj : Nat) (x y : Note) (h1 : y.rd = 0) (h2 : y.wr = 0) : Am.apart bj x y = true := by
  unfold Am.apart
  rw [h1, h2, disj_zero_right, disj_zero_left]
  cases hasBit bj y.i <;> rfl
theorem apart_zero' (bj : Nat) (x y : Note) (h1 : x.rd = 0) (h2 : x.wr = 0) : Am.apart bj x y = true := by
  unfold Am.apart
  rw [h1, h2, disj_zero_left, disj_zero_right, disj_zero_left]
  cases hasBit bj y.i <;> rfl
theorem apartAll_cons (bj : Nat) (j x : Note) (l : List Note) : apartAll bj j (x :: l) = cond (Am.apart bj j x) (apartAll bj j l) false := rfl
theorem apartAll_mem {bj : Nat} {j : Note} : ∀ {l : List Note}, apartAll bj j l = true → ∀ x ∈ l, Am.apart bj j x = true
  | [], _, x, hx => by cases hx
  | y :: l, h, x, hx => by
    rw [apartAll_cons] at h
    obtain ⟨h1, h2⟩ := cond_both h
    rcases List.mem_cons.1 hx with rfl | hx
    · exact h1
    · exact apartAll_mem h2 x hx

theorem runDrawn_nil (ev : Task → Ans) (all : Array Oper) (bs : Tr Nat) (i : Nat) (l : List Note) (s : S) : runDrawn T ev all bs [] i l s = .code .normal s := rfl
theorem runDrawn_cons (ev : Task → Ans) (all : Array Oper) (bs : Tr Nat) (o : Oper) (r : List Oper) (i : Nat) (l : List Note) (s : S) :
    runDrawn T ev all bs (o :: r) i l s = drawnStep T ev all bs i o (runDrawn T ev all bs r (i + 1)) l s := rfl

/-- What becomes of one operation of such a region. -/
theorem drawnStep_sound (tok : TabOK T P) {ev : Task → Ans} (hev : EvS T P ev) {all : Array Oper} {bs : Tr Nat} {i : Nat} {o : Oper} (ho : all[i]? = some o) {k : List Note → S → Ans} {l : List Note} {s : S} {r : Ans}
    (e : drawnStep T ev all bs i o k l s = r) (hr : r ≠ .fail) :
    ∃ v h1 h' l', k l' ⟨putT s.tm v o.dst, s.df, h', s.ab⟩ = r ∧ DoneS T P all i o s.tm s.h v h1 ∧ Outer s.h h1 h' ∧ Am.apart 0 ⟨i, h1.rd, wrN s.h h1⟩ ⟨i, 0, 0⟩ = true ∧
      (∀ x ∈ l, x ∈ l') ∧ ((h1.rd = 0 ∧ wrN s.h h1 = 0) ∨ (⟨i, h1.rd, wrN s.h h1⟩ ∈ l' ∧ ∀ x ∈ l, Am.apart (beforeOf bs i) ⟨i, h1.rd, wrN s.h h1⟩ x = true)) := by
  obtain ⟨tm, df, h, ab⟩ := s
  have done : ∀ v h1, drawnDone k h.next h.base h.rd h.wr bs l i (putT tm v o.dst) df ab h1 = r →
      ∃ h' l', k l' ⟨putT tm v o.dst, df, h', ab⟩ = r ∧ Outer h h1 h' ∧ (∀ x ∈ l, x ∈ l') ∧ ((h1.rd = 0 ∧ wrN h h1 = 0) ∨ (⟨i, h1.rd, wrN h h1⟩ ∈ l' ∧ ∀ x ∈ l, Am.apart (beforeOf bs i) ⟨i, h1.rd, wrN h h1⟩ x = true)) := by
    intro v h1 e
    obtain ⟨m, n, b0, rd, wr⟩ := h1
    have e : forceN (fun w' => drawnNote k h.base h.rd h.wr bs l i (putT tm v o.dst) df ab m n rd wr w') (Nat.lor wr (rangeBits h.next n)) = r := e
    rw [forceN_eq] at e
    have hw : Nat.lor wr (rangeBits h.next n) = wrN h ⟨m, n, b0, rd, wr⟩ := rfl
    rw [hw] at e
    unfold drawnNote at e
    cases hz : cond (Nat.beq rd 0) (Nat.beq (wrN h ⟨m, n, b0, rd, wr⟩) 0) false with
    | true =>
      rw [hz, cond_true] at e
      obtain ⟨z1, z2⟩ := cond_both hz
      have z1 := nbeq_true z1
      have z2 := nbeq_true z2
      refine ⟨_, l, e, ⟨fun b => rfl, rfl, rfl, fun b hb => hb, fun b hb => hb, fun b hb => ?_, fun b hb => ?_⟩, fun x hx => hx, .inl ⟨z1, z2⟩⟩
      · have : rd.testBit b = true := hb
        rw [z1] at this; simp at this
      · have hb : wr.testBit b = true := hb
        have : (wrN h ⟨m, n, b0, rd, wr⟩).testBit b = true := testBit_lor_left hb
        rw [z2] at this; simp at this
    | false =>
      rw [hz, cond_false] at e
      cases ha : apartAll (beforeOf bs i) ⟨i, rd, wrN h ⟨m, n, b0, rd, wr⟩⟩ l with
      | false => rw [ha] at e; exact absurd e.symm hr
      | true =>
        rw [ha, cond_true] at e
        refine ⟨_, _, e, ?_, fun x hx => List.mem_cons_of_mem _ hx, .inr ⟨List.mem_cons_self, apartAll_mem ha⟩⟩
        unfold notedH
        cases hb0 : Nat.beq h.base 0 with
        | true =>
          have hb0 : h.base = 0 := nbeq_true hb0
          exact ⟨fun b => rfl, rfl, rfl, fun b hb => hb, fun b hb => hb, fun b hb => .inl (by show h.base ≤ b; omega), fun b hb => .inl (by show h.base ≤ b; omega)⟩
        | false =>
          rw [cond_false, forceN_eq, forceN_eq]
          exact ⟨fun b => rfl, rfl, rfl, fun b hb => testBit_lor_left hb, fun b hb => testBit_lor_left hb, fun b hb => .inr (testBit_lor_right hb), fun b hb => .inr (testBit_lor_right hb)⟩
  have e : onO .fail (fun b => onB (k l ⟨putT tm undef o.dst, df, h, ab⟩)
      (drawnRes ev k h.next h.base h.rd h.wr bs l i o.dst tm df h.fresh ab (Am.execOp T tm o.type h.fresh o.op)) b) (Am.wanted all tm o.guard) = r := e
  cases hw : Am.wanted all tm o.guard with
  | none => rw [hw] at e; exact absurd e.symm hr
  | some q =>
    rw [hw] at e
    cases q with
    | false =>
      have e : k l ⟨putT tm undef o.dst, df, h, ab⟩ = r := e
      have hf := fresh_eq h
      have hz1 : h.fresh.rd = 0 := by rw [hf]
      have hz2 : wrN h h.fresh = 0 := by
        rw [hf]
        show Nat.lor 0 (rangeBits h.next h.next) = 0
        have : rangeBits h.next h.next = 0 := by
          apply Nat.eq_of_testBit_eq
          intro x
          cases hx : (rangeBits h.next h.next).testBit x with
          | false => simp
          | true => have := (rangeBits_spec _ _ _).1 hx; omega
        rw [this]; rfl
      refine ⟨undef, h.fresh, h, l, e, .inl ⟨hw, rfl, rfl⟩, ⟨fun b => by rw [hf]; rfl, by rw [hf], rfl, fun b hb => hb, fun b hb => hb, fun b hb => ?_, fun b hb => ?_⟩, apart_zero _ _ _ rfl rfl, fun x hx => hx, .inl ⟨hz1, hz2⟩⟩
      · rw [hf] at hb; simp at hb
      · rw [hf] at hb; simp at hb
    | true =>
      have e : drawnRes ev k h.next h.base h.rd h.wr bs l i o.dst tm df h.fresh ab (Am.execOp T tm o.type h.fresh o.op) = r := e
      cases hx : Am.execOp T tm o.type h.fresh o.op with
      | of r0 =>
        rw [hx] at e
        cases r0 with
        | fail => exact absurd e.symm hr
        | val v h1 =>
          obtain ⟨h', l', q1, q2, q3, q4⟩ := done v h1 e
          refine ⟨v, h1, h', l', q1, .inr ⟨hw, (execOp_val (P := P) tok (ρ := fun _ => undef) hx).1, fun Γ m hD w b rest kk a cs F I hrel hwc => ?_⟩, q2, apart_zero _ _ _ rfl rfl, q3, q4⟩
          obtain ⟨_, hv⟩ := execOp_val (P := P) tok (ρ := a.eval) hx
          obtain ⟨v', m', hD', w', k1, k2, k3, k4⟩ := hv Γ m hD w F I hrel
          exact ⟨v', m', hD', w', k2, k3, k4, .one (step_val ho hwc (not_defer hx (by simp)) k1)⟩
      | call f args =>
        rw [hx] at e
        have e : drawnCall k h.next h.base h.rd h.wr bs l i o.dst tm df ab (ev (.call f args h.fresh none)) = r := e
        obtain ⟨fo, as, ts, ho2, hf, ha⟩ := execOp_call hx
        have hcall := hev.call f args h.fresh none
        cases hans : ev (.call f args h.fresh none) with
        | ret v h1 ab1 =>
          rw [hans] at e hcall
          obtain ⟨h', l', q1, q2, q3, q4⟩ := done v h1 e
          obtain ⟨hle, hc⟩ := hcall h1 ab1 rfl
          refine ⟨v, h1, h', l', q1, .inr ⟨hw, hle, fun Γ m hD w b rest kk a cs F I hrel hwc => ?_⟩, q2, apart_zero _ _ _ rfl rfl, q3, q4⟩
          rw [ho2] at hrel
          obtain ⟨nx, fr0, p1, p2, m', hD', cab', w', cr, p3, p4, p5, p6, p7, p8⟩ := hc Γ m hD (.plain (b.atR a (.inRegion all (i :: rest) :: kk) :: cs)) (a.eval fo) (as.toList.map a.eval) none w (.inl ⟨_, _, rfl⟩) F I
            (hrel fo (by simp [opnds, callOpnds]) f hf) (opvs_rel ha fun y hy => hrel y (by simp only [opnds, callOpnds, List.mem_cons]; exact .inr hy)) .none rfl
          cases p7 with
          | ret hv =>
            refine ⟨_, m', hD', w', p3, hv, p4, .head (step_start ho hwc (fun c hc => by rw [ho2] at hc; cases hc) (by rw [run_callOp ho2]; exact p1) p2) ?_⟩
            rw [← finish_at ho]
            exact p8.plain_ret
        | fail => rw [hans] at e; exact absurd e.symm hr
        | code x y => rw [hans] at e; exact absurd e.symm hr
        | pan c x y => rw [hans] at e; exact absurd e.symm hr
      | pan v => rw [hx] at e; exact absurd e.symm hr
      | dfr f args => rw [hx] at e; exact absurd e.symm hr
      | recov => rw [hx] at e; exact absurd e.symm hr

theorem runDrawn_trace (tok : TabOK T P) {ev : Task → Ans} (hev : EvS T P ev) {all : Array Oper} {bs : Tr Nat} : ∀ (l : List Oper) (i : Nat) (notes : List Note) (s : S) (e : Ex) (s' : S), l = all.toList.drop i → i ≤ all.size →
    runDrawn T ev all bs l i notes s = .code e s' → e = .normal ∧ s'.df = s.df ∧ s'.ab = s.ab ∧ ∃ c, TraceS T P all bs i all.size notes s.tm s.h s'.tm s'.h c
  | [], i, notes, s, e, s', hl, hi, he => by
    rw [runDrawn_nil] at he
    injection he with h1 h2; subst h1; subst h2
    have hn : i = all.size := by
      have := congrArg List.length hl
      simp at this
      omega
    subst hn
    exact ⟨rfl, rfl, rfl, ⟨fun _ => s.tm, fun _ => s.h, fun _ => undef, fun _ => s.h⟩, rfl, rfl, rfl, rfl, fun k h1 h2 => by omega, fun j k h1 h2 h3 => by omega, fun x hx k h1 h2 => by omega⟩
  | o :: l, i, notes, s, e, s', hl, hi, he => by
    rw [runDrawn_cons] at he
    have hoi : all[i]? = some o := by
      have : all.toList[i]? = some o := by
        have h0 : (all.toList.drop i)[0]? = some o := by rw [← hl]; rfl
        rw [List.getElem?_drop] at h0
        simpa using h0
      simpa using this
    have hlt : i < all.size := (Array.getElem?_eq_some_iff.1 hoi).1
    have hl2 : l = all.toList.drop (i + 1) := by
      have := congrArg List.tail hl
      simpa [List.tail_drop] using this
    obtain ⟨v, h1, h', l', q1, q2, q3, _, q5, q6⟩ := drawnStep_sound tok hev hoi he (by simp)
    obtain ⟨rfl, r1, r2, c, tr⟩ := runDrawn_trace tok hev l (i + 1) l' _ e s' hl2 hlt q1
    refine ⟨rfl, r1, r2, ⟨fun k => if k = i then s.tm else c.tm k, fun k => if k = i then s.h else c.h k, fun k => if k = i then v else c.v k, fun k => if k = i then h1 else c.h1 k⟩, ?_⟩
    have hnote : ∀ k, k ≠ i → (Tc.note ⟨fun k => if k = i then s.tm else c.tm k, fun k => if k = i then s.h else c.h k, fun k => if k = i then v else c.v k, fun k => if k = i then h1 else c.h1 k⟩ k) = c.note k := fun k hk => by
      simp [Tc.note, hk]
    have hnotei : (Tc.note ⟨fun k => if k = i then s.tm else c.tm k, fun k => if k = i then s.h else c.h k, fun k => if k = i then v else c.v k, fun k => if k = i then h1 else c.h1 k⟩ i) = ⟨i, h1.rd, wrN s.h h1⟩ := by simp [Tc.note]
    refine ⟨by simp, by simp, ?_, ?_, fun k hk1 hk2 => ?_, fun j k hj hjk hk => ?_, fun x hx k hk1 hk2 => ?_⟩
    · simp only []; rw [if_neg (by omega)]; exact tr.tmn
    · simp only []; rw [if_neg (by omega)]; exact tr.hn
    · by_cases e : k = i
      · subst e
        refine ⟨o, hoi, by simpa using q2, ?_, ?_⟩
        · simp only [if_true]; rw [if_neg (by omega)]; exact tr.tm0
        · simp only [if_true]; rw [if_neg (by omega), tr.h0]; exact q3
      · obtain ⟨o2, p1, p2, p3, p4⟩ := tr.step k (by omega) hk2
        refine ⟨o2, p1, by simpa [e] using p2, ?_, ?_⟩
        · simp only [if_neg e]; rw [if_neg (by omega)]; exact p3
        · simp only [if_neg e]; rw [if_neg (by omega)]; exact p4
    · rw [hnote k (by omega)]
      by_cases e : j = i
      · subst e
        rw [hnotei]
        rcases q6 with ⟨z1, z2⟩ | ⟨z, _⟩
        · exact apart_zero _ _ _ z1 z2
        · exact tr.noted _ z k (by omega) hk
      · rw [hnote j e]; exact tr.apart j k (by omega) hjk hk
    · by_cases e : k = i
      · subst e
        rw [hnotei]
        rcases q6 with ⟨z1, z2⟩ | ⟨_, z⟩
        · exact apart_zero' _ _ _ z1 z2
        · exact z x hx
      · rw [hnote k e]; exact tr.noted x (q5 x hx) k (by omega) hk2
end Go.Am
