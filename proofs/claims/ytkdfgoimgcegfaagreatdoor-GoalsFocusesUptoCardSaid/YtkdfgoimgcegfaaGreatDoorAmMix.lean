/- A region that draws its order: whatever order is drawn. -/
import Derived.Test.YtkdfgoimgcegfaaGreatDoorAmDrawn
set_option linter.unusedSectionVars false
set_option linter.unusedSimpArgs false
set_option linter.unusedVariables false
namespace Go.Am
open Go
variable {T : Tab} {P : Program}

/-! ### What the check says -/
theorem pairsOK_spec {all : List Oper} {bj : Nat} {oj : Oper} : ∀ {l : List Oper} {i j : Nat}, pairsOK all bj oj l i j = true → ∀ k o, l[k]? = some o → i + k < j → pairOK all bj (i + k) o oj = true
  | [], _, _, _, k, o, h, _ => by simp at h
  | x :: l, i, j, e, 0, o, h, hk => by
    simp at h; subst h
    unfold pairsOK at e
    rw [Bool.and_eq_true, Bool.or_eq_true] at e
    rcases e.1 with q | q
    · have := nble_true q; omega
    · exact q
  | x :: l, i, j, e, k + 1, o, h, hk => by
    unfold pairsOK at e
    rw [Bool.and_eq_true] at e
    have := pairsOK_spec e.2 k o (by simpa using h) (by omega)
    rw [show i + (k + 1) = i + 1 + k from by omega]
    exact this
theorem drawnAllOK_spec {all : List Oper} {bs : Tr Nat} : ∀ {l : List Oper} {j : Nat}, drawnAllOK all bs l j = true → ∀ k o, l[k]? = some o →
    (∀ e ∈ o.after.toList, edgeOK (j + k) e = true) ∧ pairsOK all (beforeOf bs (j + k)) o all 0 (j + k) = true
  | [], _, _, k, o, h => by simp at h
  | x :: l, j, e, 0, o, h => by
    simp at h; subst h
    unfold drawnAllOK at e
    rw [Bool.and_eq_true, Bool.and_eq_true, Bool.and_eq_true] at e
    exact ⟨List.all_eq_true.1 e.1, e.2.2.1⟩
  | x :: l, j, e, k + 1, o, h => by
    unfold drawnAllOK at e
    rw [Bool.and_eq_true, Bool.and_eq_true, Bool.and_eq_true] at e
    have := drawnAllOK_spec e.2.2.2 k o (by simpa using h)
    rw [show j + (k + 1) = j + 1 + k from by omega]
    exact this
theorem edge_lt {i : Nat} {e : Edge} (h : edgeOK i e = true) (hb : bindsAny e = true) : e.on < i := by
  unfold edgeOK at h
  rw [hb] at h
  exact nble_true h
theorem looks_opnd {all : List Oper} {o : Oper} {t : Tmp} (h : Operand.tmp t ∈ opnds o.op) : looks all o t = true := by
  unfold looks
  rw [Bool.or_eq_true]
  left
  rw [List.any_eq_true]
  exact ⟨_, h, by unfold isTmp; exact nbeq_eq rfl⟩
theorem looks_guard {all : List Oper} {o x : Oper} {g : Nat} {want : Bool} {t : Tmp} (hg : o.guard = some (g, want)) (hx : all[g]? = some x) (hd : x.dst = some t) : looks all o t = true := by
  unfold looks
  rw [Bool.or_eq_true]
  right
  simp only [hg, hx, hd]
  exact nbeq_eq rfl
theorem binds_any (e : Edge) : Region.binds .any e = bindsAny e := by
  unfold Region.binds bindsAny
  cases e.ground <;> rfl

/-- The region that is run, its trace, and where it began. -/
structure Mx (T : Tab) (P : Program) where
  all : Array Oper
  c : Tc
  Γ : Ctx
  m0 : M
  hD0 : Nat → Option AObj
noncomputable def Mx.bef (X : Mx T P) (i : Nat) : Nat := beforeOf (befores X.all.toList 0 .nil) i
def Mx.wn (X : Mx T P) (j b : Nat) : Prop := (wrN (X.c.h j) (X.c.h1 j)).testBit b = true
structure MxOK (X : Mx T P) : Prop where
  tr : ∃ tmE hE, TraceS T P X.all (befores X.all.toList 0 .nil) 0 X.all.size [] (X.c.tm 0) (X.c.h 0) tmE hE X.c
  ok : drawnAllOK X.all.toList (befores X.all.toList 0 .nil) X.all.toList 0 = true
  fin : Fin X.Γ (X.c.h X.all.size)
structure MxI (X : Mx T P) : Prop where
  dom0 : ∀ b o, (X.c.h 0).get b = some o → b < (X.c.h 0).next
  baseLe : (X.c.h 0).base ≤ (X.c.h 0).next

section facts
variable {X : Mx T P} (H : MxOK X)
include H
theorem MxOK.step {k : Nat} (hk : k < X.all.size) : ∃ o, X.all[k]? = some o ∧ DoneS T P X.all k o (X.c.tm k) (X.c.h k) (X.c.v k) (X.c.h1 k) ∧ X.c.tm (k + 1) = putT (X.c.tm k) (X.c.v k) o.dst ∧ Outer (X.c.h k) (X.c.h1 k) (X.c.h (k + 1)) := by
  obtain ⟨_, _, t⟩ := H.tr
  exact t.step k (Nat.zero_le _) hk
theorem MxOK.le {k : Nat} (hk : k < X.all.size) : Le (X.c.h k).fresh (X.c.h1 k) := by
  obtain ⟨o, _, hd, _⟩ := H.step hk
  rcases hd with ⟨_, _, e⟩ | ⟨_, l, _⟩
  · rw [e]; exact .refl _
  · exact l
theorem MxOK.next1 {k : Nat} (hk : k < X.all.size) : (X.c.h k).next ≤ (X.c.h1 k).next := by
  have := (H.le hk).next
  rw [fresh_eq] at this
  exact this
theorem MxOK.nextS {k : Nat} (hk : k < X.all.size) : (X.c.h (k + 1)).next = (X.c.h1 k).next := by
  obtain ⟨_, _, _, _, ou⟩ := H.step hk
  exact ou.next
theorem MxOK.mono {i j : Nat} (hij : i ≤ j) (hj : j ≤ X.all.size) : (X.c.h i).next ≤ (X.c.h j).next := by
  induction j with
  | zero => have : i = 0 := by omega
            subst this; exact Nat.le_refl _
  | succ j ih =>
    by_cases e : i = j + 1
    · subst e; exact Nat.le_refl _
    · have h1 := ih (by omega) (by omega)
      have h2 := H.next1 (k := j) (by omega)
      have h3 := H.nextS (k := j) (by omega)
      omega
/-- A block between has its maker. -/
theorem MxOK.maker {i b : Nat} : ∀ {j : Nat}, i ≤ j → j ≤ X.all.size → (X.c.h i).next ≤ b → b < (X.c.h j).next → ∃ k, i ≤ k ∧ k < j ∧ (X.c.h k).next ≤ b ∧ b < (X.c.h1 k).next := by
  intro j
  induction j with
  | zero =>
    intro hij _ h1 h2
    have : i = 0 := by omega
    subst this; omega
  | succ j ih =>
    intro hij hj h1 h2
    by_cases e1 : i = j + 1
    · subst e1; omega
    · by_cases e : b < (X.c.h j).next
      · obtain ⟨k, q1, q2, q3⟩ := ih (by omega) (by omega) h1 e
        exact ⟨k, q1, by omega, q3⟩
      · have h3 := H.nextS (k := j) (by omega)
        exact ⟨j, by omega, by omega, by omega, by omega⟩
theorem MxOK.keep {i b : Nat} (hb : b < (X.c.h i).next) : ∀ {j : Nat}, i ≤ j → j ≤ X.all.size → (∀ k, i ≤ k → k < j → ¬ X.wn k b) → (X.c.h j).get b = (X.c.h i).get b := by
  intro j
  induction j with
  | zero => intro hij _ _; have : i = 0 := by omega
            subst this; rfl
  | succ j ih =>
    intro hij hj hno
    by_cases e1 : i = j + 1
    · subst e1; rfl
    · rw [← ih (by omega) (by omega) (fun k h1 h2 => hno k h1 (by omega))]
      obtain ⟨_, _, _, _, ou⟩ := H.step (k := j) (by omega)
      have hl := H.le (k := j) (by omega)
      have hbj : b < (X.c.h j).next := Nat.lt_of_lt_of_le hb (H.mono (by omega) (by omega))
      rw [ou.get]
      have hk := hl.keep b (by rw [fresh_eq]; exact hbj) (by rw [hl.base, fresh_eq]; exact hbj) (fun q => hno j (by omega) (by omega) (testBit_lor_left q))
      rw [hk, fresh_eq]; rfl
/-- Behind the writer. -/
theorem MxOK.keep1 {i j b : Nat} (hij : i < j) (hj : j ≤ X.all.size) (hb : b < (X.c.h1 i).next) (hno : ∀ k, i < k → k < j → ¬ X.wn k b) : (X.c.h j).get b = (X.c.h1 i).get b := by
  obtain ⟨_, _, _, _, ou⟩ := H.step (k := i) (by omega)
  rw [← ou.get]
  exact H.keep (i := i + 1) (by rw [ou.next]; exact hb) (by omega) hj (fun k h1 h2 => hno k (by omega) h2)
theorem MxOK.dom (J : MxI X) : ∀ {k : Nat}, k ≤ X.all.size → ∀ b o, (X.c.h k).get b = some o → b < (X.c.h k).next := by
  intro k
  induction k with
  | zero => exact fun _ => J.dom0
  | succ k ih =>
    intro hk b o hb
    obtain ⟨_, _, _, _, ou⟩ := H.step (k := k) (by omega)
    rw [ou.get] at hb
    rw [ou.next]
    refine (H.le (k := k) (by omega)).dom ?_ b o hb
    intro b o hb
    rw [fresh_eq] at hb ⊢
    exact ih (by omega) b o hb
theorem MxOK.base : ∀ {k : Nat}, k ≤ X.all.size → (X.c.h k).base = (X.c.h 0).base := by
  intro k
  induction k with
  | zero => exact fun _ => rfl
  | succ k ih =>
    intro hk
    obtain ⟨_, _, _, _, ou⟩ := H.step (k := k) (by omega)
    rw [ou.base, ih (by omega)]
theorem MxOK.rdUp {i b : Nat} : ∀ {j : Nat}, i ≤ j → j ≤ X.all.size → (X.c.h i).rd.testBit b = true → (X.c.h j).rd.testBit b = true := by
  intro j
  induction j with
  | zero => intro hij _ h; have : i = 0 := by omega
            subst this; exact h
  | succ j ih =>
    intro hij hj h
    by_cases e1 : i = j + 1
    · subst e1; exact h
    · obtain ⟨_, _, _, _, ou⟩ := H.step (k := j) (by omega)
      exact ou.rd0 b (ih (by omega) (by omega) h)
theorem MxOK.wrUp {i b : Nat} : ∀ {j : Nat}, i ≤ j → j ≤ X.all.size → (X.c.h i).wr.testBit b = true → (X.c.h j).wr.testBit b = true := by
  intro j
  induction j with
  | zero => intro hij _ h; have : i = 0 := by omega
            subst this; exact h
  | succ j ih =>
    intro hij hj h
    by_cases e1 : i = j + 1
    · subst e1; exact h
    · obtain ⟨_, _, _, _, ou⟩ := H.step (k := j) (by omega)
      exact ou.wr0 b (ih (by omega) (by omega) h)
theorem MxOK.hi (J : MxI X) {b : Nat} (hb : (X.c.h 0).next ≤ b) : X.Γ.tch b ∧ X.Γ.wrt b :=
  H.fin.hi b (by rw [H.base (Nat.le_refl _)]; have := J.baseLe; omega)
theorem MxOK.tch {i b : Nat} (hi : i < X.all.size) (h : (X.c.h1 i).rd.testBit b = true) : X.Γ.tch b := by
  obtain ⟨_, _, _, _, ou⟩ := H.step hi
  rcases ou.rd b h with q | q
  · exact (H.fin.hi b (by rw [H.base (k := X.all.size) (Nat.le_refl _), ← H.base (k := i + 1) (by omega)]; exact q)).1
  · exact H.fin.rd b (H.rdUp (i := i + 1) (by omega) (Nat.le_refl _) q)
omit H in
theorem wn_cases {j b : Nat} (h : X.wn j b) : (X.c.h1 j).wr.testBit b = true ∨ ((X.c.h j).next ≤ b ∧ b < (X.c.h1 j).next) := by
  rcases testBit_lor h with h | h
  · exact .inl h
  · exact .inr ((rangeBits_spec _ _ _).1 h)
omit H in
theorem wn_range {j b : Nat} (h1 : (X.c.h j).next ≤ b) (h2 : b < (X.c.h1 j).next) : X.wn j b := by
  exact testBit_lor_right ((rangeBits_spec _ _ _).2 ⟨h1, h2⟩)
theorem MxOK.wrt (J : MxI X) {i b : Nat} (hi : i < X.all.size) (h : X.wn i b) : X.Γ.wrt b := by
  rcases wn_cases h with h | ⟨h1, _⟩
  · obtain ⟨_, _, _, _, ou⟩ := H.step hi
    rcases ou.wr b h with q | q
    · exact (H.fin.hi b (by rw [H.base (k := X.all.size) (Nat.le_refl _), ← H.base (k := i + 1) (by omega)]; exact q)).2
    · exact H.fin.wr b (H.wrUp (i := i + 1) (by omega) (Nat.le_refl _) q)
  · exact (H.hi J (by have := H.mono (i := 0) (j := i) (by omega) (by omega); omega)).2
/-- What meets at a block is ordered. -/
theorem MxOK.ord {j i b : Nat} (hji : j < i) (hi : i < X.all.size) (h : (X.wn j b ∧ ((X.c.h1 i).rd.testBit b = true ∨ X.wn i b)) ∨ (X.wn i b ∧ (X.c.h1 j).rd.testBit b = true)) : (X.bef i).testBit j = true := by
  obtain ⟨_, _, t⟩ := H.tr
  have ha := t.apart j i (Nat.zero_le _) hji hi
  unfold Am.apart at ha
  cases hb : hasBit (beforeOf (befores X.all.toList 0 .nil) i) (X.c.note j).i with
  | true => rw [hasBit_eq] at hb; exact hb
  | false =>
    rw [hb, cond_false] at ha
    obtain ⟨a1, ha⟩ := cond_both ha
    obtain ⟨a2, a3⟩ := cond_both ha
    exfalso
    rcases h with ⟨h1, h2 | h2⟩ | ⟨h1, h2⟩
    · exact disj_spec a2 b h1 h2
    · exact disj_spec a3 b h2 h1
    · exact disj_spec a1 b h1 h2
theorem MxOK.pair {j i : Nat} (hji : j < i) {oj oi : Oper} (hj : X.all[j]? = some oj) (hi : X.all[i]? = some oi) : (X.bef i).testBit j = true ∨
    (looksD X.all.toList oi oj.dst = false ∧ looksD X.all.toList oj oi.dst = false ∧ sameDst oj.dst oi.dst = false) := by
  have h := (drawnAllOK_spec H.ok i oi (by simpa using hi)).2
  rw [Nat.zero_add] at h
  have := pairsOK_spec h j oj (by simpa using hj) (by omega)
  rw [Nat.zero_add] at this
  unfold pairOK at this
  rw [Bool.or_eq_true] at this
  rcases this with h | h
  · rw [hasBit_eq] at h; exact .inl h
  · rw [Bool.and_eq_true, Bool.and_eq_true] at h
    exact .inr ⟨by simpa using h.1, by simpa using h.2.1, by simpa using h.2.2⟩
theorem MxOK.edges {i : Nat} {o : Oper} (hi : X.all[i]? = some o) : ∀ e ∈ o.after.toList, bindsAny e = true → e.on < i := by
  intro e he hb
  have := (drawnAllOK_spec H.ok i o (by simpa using hi)).1 e he
  rw [Nat.zero_add] at this
  exact edge_lt this hb
end facts

/-- In the midst of the region: D have been carried out. -/
structure Mix (X : Mx T P) (D : Nat → Prop) (nt : Nat) (a : Act) (m : M) (hD : Nat → Option AObj) (w : World) : Prop where
  obj : ∀ b o, hD b = some o → ∃ pl o', m b = some pl ∧ w.heap[pl.blk]? = some o' ∧ OR T m pl o o'
  inj : ∀ b b' pl pl', hD b ≠ none → hD b' ≠ none → m b = some pl → m b' = some pl' → pl.blk = pl'.blk → b = b'
  old : ∀ c, c < X.Γ.w0.heap.size → w.heap[c]? = X.Γ.w0.heap[c]?
  size : X.Γ.w0.heap.size ≤ w.heap.size
  young : ∀ b pl, hD b ≠ none → m b = some pl → X.Γ.w0.heap.size ≤ pl.blk
  same : Same X.Γ.w0 w
  dm : ∀ b, (X.c.h 0).next ≤ b → b < (X.c.h X.all.size).next → m b ≠ none → ∃ j, j < X.all.size ∧ D j ∧ (X.c.h j).next ≤ b ∧ b < (X.c.h1 j).next
  keepM : MLe X.m0 m
  outM : ∀ b, (b < (X.c.h 0).next ∨ (X.c.h X.all.size).next ≤ b) → m b = X.m0 b
  A : ∀ i, i ≤ X.all.size → ∀ b, b < (X.c.h i).next → X.Γ.tch b → m b ≠ none → (∀ j, j < X.all.size → X.wn j b → (D j ↔ j < i)) → hD b = (X.c.h i).get b
  A2 : ∀ b, (∀ j, j < X.all.size → ¬ X.wn j b) → hD b = X.hD0 b
  A3 : ∀ b, (X.c.h X.all.size).next ≤ b → hD b = X.hD0 b
  B : ∀ i, i ≤ X.all.size → ∀ t v, (X.c.tm i).get t = some v → (∀ j o, X.all[j]? = some o → o.dst = some t → (D j ↔ j < i)) → ∃ v', a.tmps[t]? = some v' ∧ VR m v v'
  closed : ∀ i, D i → ∀ j, (X.bef i).testBit j = true → D j
  nt : a.tmps.size = nt
  imm : (∀ c l, m.im c = some l → (∃ e f, w.heap[c]? = some (.cells ⟨l⟩ e f)) ∧ ∀ b pl, hD b ≠ none → m b = some pl → pl.blk ≠ c)
  outIm : ∀ c, c < X.Γ.w0.heap.size → m.im c = X.m0.im c

theorem Mix.live {X : Mx T P} {D : Nat → Prop} {nt : Nat} {a : Act} {m : M} {hD : Nat → Option AObj} {w : World} (Q : Mix X D nt a m hD w) {b : Nat} (h : m b = none) : hD b = none := by
  cases e : hD b with
  | none => rfl
  | some o => obtain ⟨pl, o', h1, _⟩ := Q.obj b o e; rw [h] at h1; cases h1

/-- What one operation does to the midst. -/
theorem Mix.step {X : Mx T P} (H : MxOK X) (J : MxI X) {D : Nat → Prop} {nt : Nat} {a : Act} {m : M} {hD : Nat → Option AObj} {w : World} (Q : Mix X D nt a m hD w) (hops : ∀ o ∈ X.all.toList, opOK nt o = true)
    {i : Nat} (hi : i < X.all.size) (hnD : ¬ D i) (hb : ∀ j, (X.bef i).testBit j = true → D j) (b : Frame) (rest : List Nat) (k : List Item) (cs : List Frame) :
    ∃ a' m' hD' w', MLe m m' ∧ a'.defers = a.defers ∧ Mix X (fun j => D j ∨ j = i) nt a' m' hD' w' ∧
      Steps P (lone (b.atR a (.inRegion X.all (i :: rest) :: k)) cs w) (lone (b.atR a' (.inRegion X.all rest :: k)) cs w') := by
  obtain ⟨o, ho, hdone, htm, hou⟩ := H.step hi
  obtain ⟨hdst, hconst⟩ := opOK_dst (hops o (by have := Array.mem_of_getElem? ho; simpa using this))
  have hn1 := H.next1 hi
  have hnS := H.nextS hi
  have hni : (X.c.h 0).next ≤ (X.c.h i).next := H.mono (by omega) (by omega)
  have hne : (X.c.h1 i).next ≤ (X.c.h X.all.size).next := by rw [← hnS]; exact H.mono (by omega) (Nat.le_refl _)
  -- the slots that it looks at
  have hslot : ∀ t v, looks X.all.toList o t = true → (X.c.tm i).get t = some v → ∃ v', a.tmps[t]? = some v' ∧ VR m v v' := by
    intro t v hl hv
    refine Q.B i (by omega) t v hv fun j oj hj hd => ?_
    rcases Nat.lt_trichotomy j i with h | h | h
    · refine ⟨fun _ => h, fun _ => ?_⟩
      rcases H.pair h hj ho with q | ⟨q, _⟩
      · exact hb j q
      · rw [hd] at q; have q : looks X.all.toList o t = false := q; rw [hl] at q; cases q
    · subst h; exact ⟨fun h => absurd h hnD, fun h => by omega⟩
    · refine ⟨fun hD' => ?_, fun h' => by omega⟩
      have hjl : j < X.all.size := (Array.getElem?_eq_some_iff.1 hj).1
      rcases H.pair h ho hj with q | ⟨_, q, _⟩
      · exact absurd (Q.closed j hD' i q) hnD
      · rw [hd] at q; have q : looks X.all.toList o t = false := q; rw [hl] at q; cases q
  have hrel : OpRel (X.c.tm i) a.eval (opnds o.op) m := by
    intro x hx u hu
    cases x with
    | tmp t =>
      obtain ⟨v', h1, h2⟩ := hslot t u (looks_opnd hx) hu
      show VR m u (a.tmps.getD t undef)
      rw [Array.getD_eq_getD_getElem?, h1]; exact h2
    | const v => have hu : some v = some u := hu; injection hu with hu; subst hu; exact VR.refl_deep m (hconst _ hx)
    | global g => cases hu
    | func f => have hu : some (.func (.func f) #[] #[]) = some u := hu; injection hu with hu; subst hu; exact .func f .nil .nil
  have hwant : ∀ q, Am.wanted X.all (X.c.tm i) o.guard = some q → Region.wanted o (yielded X.all a.tmps) = q := by
    intro q e
    exact wanted_gen (fun g want x d v h1 h2 h3 h4 => hslot d v (looks_guard h1 h2 h3) h4) e
  -- the blocks that it touches
  have hagree : ∀ x, x < (X.c.h i).next → ((X.c.h1 i).rd.testBit x = true ∨ X.wn i x) → m x ≠ none → hD x = (X.c.h i).get x := by
    intro x hx ht hm
    have htc : X.Γ.tch x := by
      rcases ht with ht | ht
      · exact H.tch hi ht
      · rcases wn_cases ht with q | ⟨q, _⟩
        · rcases hou.wr x q with q | q
          · exact (H.fin.hi x (by rw [H.base (k := X.all.size) (Nat.le_refl _), ← H.base (k := i + 1) (by omega)]; exact q)).1
          · exact H.fin.wt x (H.wrUp (i := i + 1) (by omega) (Nat.le_refl _) q)
        · exact (H.hi J (by omega)).1
    refine Q.A i (by omega) x hx htc hm fun j hj hwn => ?_
    rcases Nat.lt_trichotomy j i with h | h | h
    · refine ⟨fun _ => h, fun _ => hb j (H.ord h hi (.inl ⟨hwn, ht⟩))⟩
    · subst h; exact ⟨fun h => absurd h hnD, fun h => by omega⟩
    · refine ⟨fun hD' => ?_, fun h' => by omega⟩
      have hq : (X.bef j).testBit i = true := by
        rcases ht with ht | ht
        · exact H.ord h hj (.inr ⟨hwn, ht⟩)
        · exact H.ord h hj (.inl ⟨ht, .inr hwn⟩)
      exact absurd (Q.closed j hD' i hq) hnD
  -- what the operation leaves
  have core : ∃ (v' : Value) (m' : M) (hD' : Nat → Option AObj) (w' : World), MLe m m' ∧ VR m' (X.c.v i) v' ∧ (∀ x, ((X.c.h i).next ≤ x ∧ x < (X.c.h1 i).next) ∨ m' x = m x) ∧ (∀ x, ¬ X.wn i x → hD' x = hD x) ∧ (∀ x, (X.c.h1 i).next ≤ x → hD' x = hD x) ∧
      (∀ x, X.wn i x → x < (X.c.h1 i).next → m' x ≠ none → hD' x = (X.c.h1 i).get x) ∧
      (∀ x o, hD' x = some o → ∃ pl o', m' x = some pl ∧ w'.heap[pl.blk]? = some o' ∧ OR T m' pl o o') ∧
      (∀ x x' pl pl', hD' x ≠ none → hD' x' ≠ none → m' x = some pl → m' x' = some pl' → pl.blk = pl'.blk → x = x') ∧
      (∀ c, c < X.Γ.w0.heap.size → w'.heap[c]? = X.Γ.w0.heap[c]?) ∧ X.Γ.w0.heap.size ≤ w'.heap.size ∧ (∀ x pl, hD' x ≠ none → m' x = some pl → X.Γ.w0.heap.size ≤ pl.blk) ∧ Same X.Γ.w0 w' ∧
      (∀ c l, m'.im c = some l → (∃ e f, w'.heap[c]? = some (.cells ⟨l⟩ e f)) ∧ ∀ b pl, hD' b ≠ none → m' b = some pl → pl.blk ≠ c) ∧ (∀ c, c < X.Γ.w0.heap.size → m'.im c = m.im c) ∧
      Steps P (lone (b.atR a (.inRegion X.all (i :: rest) :: k)) cs w) (lone (b.atR (a.put o.dst v') (.inRegion X.all rest :: k)) cs w') := by
    rcases hdone with ⟨hw, hv, hh⟩ | ⟨hw, hle, hrun⟩
    · have hno : ∀ x, ¬ X.wn i x := fun x hx => by
        rcases wn_cases hx with q | ⟨q1, q2⟩
        · rw [hh, fresh_eq] at q; simp at q
        · rw [hh, fresh_eq] at q2; have q2 : x < (X.c.h i).next := q2; omega
      refine ⟨undef, m, hD, w, .refl _, by rw [hv]; exact .undef m, fun _ => .inr rfl, fun _ _ => rfl, fun _ _ => rfl, fun x hx => absurd hx (hno x), Q.obj, Q.inj, Q.old, Q.size, Q.young, Q.same, Q.imm, fun _ _ => rfl, .one ?_⟩
      have := stepR_op_skip (P := P) (b := b) (a := a) (k := k) (cs := cs) (w := w) (ops := X.all) (i := i) (rest := rest) (by rw [ho]; simpa using hwant false hw)
      rw [ho] at this
      exact this
    · let Γi : Ctx := ⟨X.Γ.w0, m, hD, (X.c.h i).next, (X.c.h1 i).next, fun x => (X.c.h1 i).rd.testBit x = true ∨ X.wn i x ∨ (X.c.h i).next ≤ x, fun x => X.wn i x ∨ (X.c.h i).next ≤ x⟩
      have hbase : (X.c.h1 i).base = (X.c.h i).next := by rw [hle.base, fresh_eq]
      have F : Fin Γi (X.c.h1 i) := ⟨Nat.le_refl _, fun x hx => by rw [hbase] at hx; exact ⟨.inr (.inr hx), .inr hx⟩, fun x hx => .inl hx, fun x hx => .inl (testBit_lor_left hx), fun x hx => .inr (.inl (testBit_lor_left hx))⟩
      have hfr := fresh_eq (X.c.h i)
      have hfg : ∀ x, (X.c.h i).fresh.get x = (X.c.h i).get x := fun x => by rw [hfr]; rfl
      have hfn : (X.c.h i).fresh.next = (X.c.h i).next := by rw [hfr]
      have I : Inv T Γi m hD (X.c.h i).fresh w := by
        refine { obj := Q.obj, inj := Q.inj, old := Q.old, size := Q.size, young := Q.young, same := Q.same, agree := fun x hx ht hm => ?_, dom := fun x o hx => ?_, fresh := fun x h1 h2 => ?_,
                 baseLe := (by rw [hfr]; exact Nat.le_refl _), keepM := .refl _, outM := fun _ _ => rfl, startLe := (by rw [hfn]; exact Nat.le_refl _), keepH := fun _ _ => rfl, imm := Q.imm, outIm := fun _ _ => rfl }
        · rw [hfn] at hx
          rw [hfg]
          rcases ht with ht | ht | ht
          · exact hagree x hx (.inl ht) hm
          · exact hagree x hx (.inr ht) hm
          · omega
        · rw [hfn]; rw [hfg] at hx; exact H.dom J (by omega) x o hx
        · rw [hfn] at h1
          have hm : m x = none := by
            cases hq : m x with
            | none => rfl
            | some pl =>
              obtain ⟨j, j1, j2, j3, j4⟩ := Q.dm x (by omega) (by show x < _; have : x < (X.c.h1 i).next := h2; omega) (by rw [hq]; simp)
              exfalso
              have h2 : x < (X.c.h1 i).next := h2
              rcases Nat.lt_trichotomy j i with h | h | h
              · have := H.nextS j1; have := H.mono (i := j + 1) (j := i) (by omega) (by omega); omega
              · subst h; exact hnD j2
              · have := H.mono (i := i + 1) (j := j) (by omega) (by omega); omega
          exact ⟨hm, Q.live hm⟩
      obtain ⟨v', m', hD', w', k1, k2, k3, k4⟩ := hrun Γi m hD w b rest k a cs F I hrel (hwant true hw)
      refine ⟨v', m', hD', w', k1, k2, fun x => ?_, fun x hx => ?_, fun x hx => k3.keepH x (.inr hx), fun x hx hlt hm => ?_, k3.obj, k3.inj, k3.old, k3.size, k3.young, k3.same, k3.imm, k3.outIm, k4⟩
      · by_cases hq : (X.c.h i).next ≤ x ∧ x < (X.c.h1 i).next
        · exact .inl hq
        · exact .inr (k3.outM x (by show x < (X.c.h i).next ∨ (X.c.h1 i).next ≤ x; omega))
      · refine k3.keepH x ?_
        by_cases hq : x < (X.c.h i).next
        · left; rintro (h | h)
          · exact hx h
          · omega
        · right
          show (X.c.h1 i).next ≤ x
          by_cases hq2 : (X.c.h1 i).next ≤ x
          · exact hq2
          · exact absurd (wn_range (by omega) (by omega)) hx
      · exact k3.agree x hlt (.inr (.inl hx)) hm
  obtain ⟨v', m', hD', w', c1, c2, c3, c4, c4b, c5, c6, c7, c8, c9, c10, c11, c13, c14, c12⟩ := core
  refine ⟨a.put o.dst v', m', hD', w', c1, put_defers _ _ _, ?_, c12⟩
  refine { obj := c6, inj := c7, old := c8, size := c9, young := c10, same := c11, dm := fun x h1 h2 hm => ?_, keepM := Q.keepM.trans c1, outM := fun x hx => ?_, A := fun i' hi' x hx ht hm hcond => ?_, A2 := fun x hx => ?_, A3 := fun x hx => ?_,
           B := fun i' hi' t v hv hcond => ?_, closed := fun j hj x hx => ?_, nt := (by rw [put_size]; exact Q.nt), imm := c13, outIm := fun c hc => (c14 c hc).trans (Q.outIm c hc) }
  · rcases c3 x with ⟨q1, q2⟩ | q
    · exact ⟨i, hi, .inr rfl, q1, q2⟩
    · rw [q] at hm
      obtain ⟨j, j1, j2, j3⟩ := Q.dm x h1 h2 hm
      exact ⟨j, j1, .inl j2, j3⟩
  · rcases c3 x with ⟨q1, q2⟩ | q
    · omega
    · rw [q]; exact Q.outM x hx
  · by_cases hw : X.wn i x
    · have hii : i < i' := (hcond i hi hw).1 (.inr rfl)
      have hno : ∀ j, i < j → j < i' → ¬ X.wn j x := fun j h1 h2 hwj => by
        have hjD : D j := by
          rcases (hcond j (by omega) hwj).2 h2 with q | q
          · exact q
          · omega
        exact hnD (Q.closed j hjD i (H.ord h1 (by omega) (.inl ⟨hw, .inr hwj⟩)))
      have hlt : x < (X.c.h1 i).next := by
        by_cases hq : x < (X.c.h1 i).next
        · exact hq
        · exfalso
          obtain ⟨j, q1, q2, q3, q4⟩ := H.maker (i := i + 1) (j := i') (b := x) (by omega) hi' (by rw [hnS]; omega) hx
          exact hno j (by omega) q2 (wn_range q3 q4)
      rw [c5 x hw hlt hm, H.keep1 hii hi' hlt hno]
    · rw [c4 x hw]
      have hm2 : m x ≠ none := by
        rcases c3 x with ⟨q1, q2⟩ | q
        · exact absurd (wn_range q1 q2) hw
        · rw [q] at hm; exact hm
      refine Q.A i' hi' x hx ht hm2 fun j hj hwj => ?_
      have hji : j ≠ i := fun e => hw (e ▸ hwj)
      rw [← hcond j hj hwj]
      exact ⟨.inl, fun h => h.resolve_right hji⟩
  · rw [c4 x (hx i hi)]; exact Q.A2 x hx
  · rw [c4b x (by omega)]; exact Q.A3 x hx
  · by_cases hd : o.dst = some t
    · have hii : i < i' := (hcond i o ho hd).1 (.inr rfl)
      have hno : ∀ j oj, i < j → j < i' → X.all[j]? = some oj → oj.dst ≠ some t := fun j oj h1 h2 hj hdj => by
        have hjD : D j := by
          rcases (hcond j oj hj hdj).2 h2 with q | q
          · exact q
          · omega
        rcases H.pair h1 ho hj with q | ⟨_, _, q⟩
        · exact hnD (Q.closed j hjD i q)
        · rw [hd, hdj] at q; have q : Nat.beq t t = false := q; exact nbeq_false q rfl
      have key : ∀ j, i + 1 ≤ j → j ≤ i' → (X.c.tm j).get t = (X.c.tm (i + 1)).get t := by
        intro j
        induction j with
        | zero => intro h _; omega
        | succ j ih =>
          intro h1 h2
          by_cases e : i + 1 = j + 1
          · rw [e]
          · rw [← ih (by omega) (by omega)]
            obtain ⟨oj, q1, _, q3, _⟩ := H.step (k := j) (by omega)
            rw [q3]
            have := hno j oj (by omega) (by omega) q1
            cases hdj : oj.dst with
            | none => rfl
            | some d =>
              rw [putT_some, Tr.get_set_ne]
              rintro rfl
              exact this hdj
      rw [key i' (by omega) (Nat.le_refl _), htm, hd, putT_some] at hv
      have := Tr.get_set_eq _ hv
      subst this
      rw [hd]
      have hsz : t < a.tmps.size := by rw [Q.nt]; exact hdst t hd
      exact ⟨v', by simp [Act.put, hsz], c2⟩
    · obtain ⟨u, h1, h2⟩ := Q.B i' hi' t v hv fun j oj hj hdj => by
        have hji : j ≠ i := fun e => by subst e; rw [ho] at hj; injection hj with hj; subst hj; exact hd hdj
        rw [← hcond j oj hj hdj]
        exact ⟨.inl, fun h => h.resolve_right hji⟩
      refine ⟨u, ?_, h2.mono c1⟩
      cases hdo : o.dst with
      | none => exact h1
      | some d =>
        have hne : d ≠ t := fun e => hd (e ▸ hdo)
        simp only [Act.put]
        rw [Array.getElem?_setIfInBounds_ne hne]; exact h1
  · rcases hj with hj | hj
    · exact .inl (Q.closed j hj x hx)
    · subst hj; exact .inl (hb x hx)

/-! ### Whatever order is drawn -/
theorem countP_lt {p q : Nat → Bool} : ∀ {l : List Nat}, (∀ j ∈ l, q j = true → p j = true) → ∀ {x : Nat}, x ∈ l → p x = true → q x = false → l.countP q < l.countP p
  | [], _, x, hx, _, _ => by cases hx
  | y :: l, h, x, hx, hp, hq => by
    have hle : l.countP q ≤ l.countP p := List.countP_mono_left fun j hj => h j (by simp [hj])
    rw [List.countP_cons, List.countP_cons]
    by_cases e : x = y
    · subst e
      rw [hp, hq]; simp; omega
    · have hxl : x ∈ l := by rcases List.mem_cons.1 hx with h' | h'; exact absurd h' e; exact h'
      have ih := countP_lt (fun j hj => h j (by simp [hj])) hxl hp hq
      by_cases hy : q y = true
      · rw [hy, h y (by simp) hy]; simp; omega
      · simp only [hy]; simp; split <;> omega
def unl (n : Nat) (listed : Array Bool) : Nat := (List.range n).countP fun i => !listed.getD i true
theorem unl_set {n i : Nat} {listed : Array Bool} (hs : listed.size = n) (hi : i < n) (h : listed.getD i true = false) : unl n (listed.setIfInBounds i true) < unl n listed := by
  refine countP_lt (fun j _ hj => ?_) (List.mem_range.2 hi) (by simp [h]) ?_
  · by_cases e : i = j
    · subst e; simp [hs, hi] at hj
    · rw [getD_set_ne true e] at hj; exact hj
  · simp [hs, hi]
theorem getD_both {listed : Array Bool} {i : Nat} (hi : i < listed.size) : listed.getD i true = listed.getD i false := by simp [hi]

theorem mix_run {X : Mx T P} (H : MxOK X) (J : MxI X) {nt : Nat} (hops : ∀ o ∈ X.all.toList, opOK nt o = true) (b : Frame) (k : List Item) (cs : List Frame) : ∀ (fuel t : Nat) (listed : Array Bool) (a : Act) (m : M) (hD : Nat → Option AObj) (w : World),
    Mix X (fun j => listed.getD j false = true) nt a m hD w → listed.size = X.all.size → unl X.all.size listed ≤ fuel →
    ∃ a' m' hD' w', MLe m m' ∧ a'.defers = a.defers ∧ Mix X (fun j => j < X.all.size) nt a' m' hD' w' ∧ Steps P (lone (b.atR a (.inRegion X.all (Region.linearise.go .any X.all fuel t listed []) :: k)) cs w) (lone (b.atR a' k) cs w') := by
  have finish : ∀ (listed : Array Bool) (a : Act) (m : M) (hD : Nat → Option AObj) (w : World), Mix X (fun j => listed.getD j false = true) nt a m hD w → listed.size = X.all.size → (∀ j, j < X.all.size → listed.getD j true = true) →
      ∃ a' m' hD' w', MLe m m' ∧ a'.defers = a.defers ∧ Mix X (fun j => j < X.all.size) nt a' m' hD' w' ∧ Steps P (lone (b.atR a (.inRegion X.all [] :: k)) cs w) (lone (b.atR a' k) cs w') := by
    intro listed a m hD w Q hs hall
    have hD' : (fun j => listed.getD j false = true) = fun j => j < X.all.size := by
      funext j
      apply propext
      constructor
      · intro h
        by_cases hj : j < listed.size
        · omega
        · simp [Array.getElem?_eq_none (by omega : listed.size ≤ j)] at h
      · intro hj
        rw [← getD_both (by omega)]; exact hall j hj
    rw [hD'] at Q
    exact ⟨a, m, hD, w, .refl _, rfl, Q, .one stepR_region_end⟩
  intro fuel
  induction fuel with
  | zero =>
    intro t listed a m hD w Q hs hu
    have : Region.linearise.go .any X.all 0 t listed [] = [] := rfl
    rw [this]
    refine finish listed a m hD w Q hs fun j hj => ?_
    cases hq : listed.getD j true with
    | true => rfl
    | false =>
      exfalso
      have h0 : unl X.all.size listed = 0 := by omega
      unfold unl at h0
      rw [List.countP_eq_zero] at h0
      exact h0 j (List.mem_range.2 hj) (by rw [hq]; rfl)
  | succ fuel ih =>
    intro t listed a m hD w Q hs hu
    have hgo : Region.linearise.go .any X.all (fuel + 1) t listed [] = match (Region.ready .any X.all listed)[t % (Region.ready .any X.all listed).length]? with
      | some i => Region.linearise.go .any X.all fuel (t / (Region.ready .any X.all listed).length) (listed.setIfInBounds i true) [i]
      | none => [].reverse := rfl
    rw [hgo]
    cases hi : (Region.ready .any X.all listed)[t % (Region.ready .any X.all listed).length]? with
    | none =>
      simp only [List.reverse_nil]
      have hnil : Region.ready .any X.all listed = [] := by
        cases hr : Region.ready .any X.all listed with
        | nil => rfl
        | cons x xs =>
          rw [hr] at hi
          have hlt : t % (x :: xs).length < (x :: xs).length := Nat.mod_lt _ (by simp)
          rw [List.getElem?_eq_none_iff] at hi
          omega
      refine finish listed a m hD w Q hs fun j hj => ?_
      induction j using Nat.strongRecOn with
      | _ j ihj =>
        cases hq : listed.getD j true with
        | true => rfl
        | false =>
          exfalso
          have ho : ∃ o, X.all[j]? = some o := ⟨X.all[j], by simp [hj]⟩
          obtain ⟨o, ho⟩ := ho
          have : j ∈ Region.ready .any X.all listed := by
            refine mem_ready.2 ⟨hq, o, ho, fun e he hb => ?_⟩
            rw [binds_any] at hb
            have hlt := H.edges ho e (by simpa using he) hb
            rw [← getD_both (by omega)]
            exact ihj e.on hlt (by omega)
          rw [hnil] at this
          cases this
    | some i =>
      simp only
      rw [linearise_go_acc, List.reverse_singleton, List.singleton_append]
      obtain ⟨hun, o, ho, hall⟩ := mem_ready.1 (List.mem_of_getElem? hi)
      have hil : i < X.all.size := (Array.getElem?_eq_some_iff.1 ho).1
      have hnD : ¬ (listed.getD i false = true) := by rw [← getD_both (by omega), hun]; simp
      have hbef : ∀ j, (X.bef i).testBit j = true → listed.getD j false = true := fun j hj => by
        obtain ⟨e, q1, q2, q3⟩ := before_bit (l := X.all.toList) (by simpa using ho) (H.edges ho) hj
        have hon := hall e (by simpa using q1) (by rw [binds_any]; exact q2)
        rcases q3 with q3 | q3
        · rw [← q3]; exact hon
        · exact Q.closed e.on hon j q3
      obtain ⟨a1, m1, hD1, w1, k1, k2, k3, k4⟩ := Q.step H J hops hil hnD hbef b (Region.linearise.go .any X.all fuel (t / (Region.ready .any X.all listed).length) (listed.setIfInBounds i true) []) k cs
      have hDe : (fun j => listed.getD j false = true ∨ j = i) = fun j => (listed.setIfInBounds i true).getD j false = true := by
        funext j
        apply propext
        by_cases e : i = j
        · subst e; simp [hs, hil]
        · rw [getD_set_ne false e]
          exact ⟨fun h => h.resolve_right (Ne.symm e), .inl⟩
      rw [hDe] at k3
      obtain ⟨a2, m2, hD2, w2, j1, j2, j3, j4⟩ := ih (t / (Region.ready .any X.all listed).length) _ a1 m1 hD1 w1 k3 (by simp [hs]) (by have := unl_set hs hil hun; omega)
      exact ⟨a2, m2, hD2, w2, k1.trans j1, by rw [j2, k2], j3, k4.trans j4⟩
end Go.Am
