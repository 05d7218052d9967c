/- Contracts: what a call of a function that works on data comes to, whatever memory it is made in. -/
import Derived.Test.YtkdfgoimgcegfaaGreatDoorAmRound
set_option linter.unusedSectionVars false
set_option linter.unusedSimpArgs false
set_option linter.unusedVariables false
namespace Go.Am
open Go
variable {T : Tab} {P : Program}

/-! ### An evaluator that asks a table first -/
noncomputable def orF (T : Tab) (ev : Task → Ans) (t : Task) : Option Ans → Ans
  | some a => a
  | none => F T ev t
noncomputable def evalC (T : Tab) (C : Task → Option Ans) (n : Nat) : Task → Ans :=
  Nat.rec (motive := fun _ => Task → Ans) (fun t => (C t).getD .fail) (fun _ ih t => orF T ih t (C t)) n
theorem evalC_succ (C : Task → Option Ans) (n : Nat) (t : Task) : evalC T C (n + 1) t = orF T (evalC T C n) t (C t) := rfl
theorem evalC_some {C : Task → Option Ans} {t : Task} {a : Ans} (h : C t = some a) (n : Nat) : evalC T C n t = a := by
  cases n with
  | zero => show (C t).getD .fail = a; rw [h]; rfl
  | succ n => rw [evalC_succ, h]; rfl
theorem evalC_none {C : Task → Option Ans} {t : Task} (h : C t = none) (n : Nat) : evalC T C (n + 1) t = F T (evalC T C n) t := by
  rw [evalC_succ, h]; rfl
/-- A table's answers are right. -/
def ConOK (T : Tab) (P : Program) (C : Task → Option Ans) : Prop := ∀ t a, C t = some a → ∃ f args h ab, t = .call f args h ab ∧ CallS T P f args h ab a
theorem evalC_sound (tok : TabOK T P) {C : Task → Option Ans} (hC : ConOK T P C) : ∀ n, EvS T P (evalC T C n)
  | 0 => by
    refine ⟨?_, ?_, ?_, ?_⟩
    · intro f args h ab
      show CallS T P f args h ab ((C (.call f args h ab)).getD .fail)
      cases hc : C (.call f args h ab) with
      | none => intro h' ab' hfin; cases hfin
      | some a =>
        obtain ⟨f', args', h', ab', e, k⟩ := hC _ _ hc
        injection e with e1 e2 e3 e4; subst e1; subst e2; subst e3; subst e4
        exact k
    · intro fr b s e s' nt h _
      have h : (C (.loop fr b s)).getD .fail = .code e s' := h
      cases hc : C (.loop fr b s) with
      | none => rw [hc] at h; cases h
      | some a => obtain ⟨_, _, _, _, e, _⟩ := hC _ _ hc; cases e
    · intro fr b s e s' nt h _
      have h : (C (.run fr b s)).getD .fail = .code e s' := h
      cases hc : C (.run fr b s) with
      | none => rw [hc] at h; cases h
      | some a => obtain ⟨_, _, _, _, e, _⟩ := hC _ _ hc; cases e
    · intro fn s mode h' ab' hfin
      have hfin : ((C (.unwind fn s mode)).getD .fail).fin = some (h', ab') := hfin
      cases hc : C (.unwind fn s mode) with
      | none => rw [hc] at hfin; cases hfin
      | some a => obtain ⟨_, _, _, _, e, _⟩ := hC _ _ hc; cases e
  | n + 1 => by
    have ih := evalC_sound tok hC n
    refine ⟨fun f args h ab => ?_, fun fr b s e s' nt h hok => ?_, fun fr c s e s' nt h hok => ?_, fun fn s mode => ?_⟩
    · rw [evalC_succ]
      cases hc : C (.call f args h ab) with
      | none => exact call_sound tok ih f args h ab
      | some a =>
        obtain ⟨f', args', h', ab', e, k⟩ := hC _ _ hc
        injection e with e1 e2 e3 e4; subst e1; subst e2; subst e3; subst e4
        exact k
    · rw [evalC_succ] at h
      cases hc : C (.loop fr b s) with
      | none => rw [hc] at h; exact loop_sound tok ih hok h
      | some a => obtain ⟨_, _, _, _, e, _⟩ := hC _ _ hc; cases e
    · rw [evalC_succ] at h
      cases hc : C (.run fr c s) with
      | none => rw [hc] at h; exact runCode_sound tok ih _ _ _ _ hok h
      | some a => obtain ⟨_, _, _, _, e, _⟩ := hC _ _ hc; cases e
    · rw [evalC_succ]
      cases hc : C (.unwind fn s mode) with
      | none => exact unwind_sound tok ih fn s mode
      | some a => obtain ⟨_, _, _, _, e, _⟩ := hC _ _ hc; cases e

/-! ### Values without blocks of the abstract machine's -/
mutual
inductive PureV : Value → Prop
  | ground {v : Value} (h : ground v = true) : PureV v
  | agg {l : List Value} (h : PureL l) : PureV (.agg ⟨l⟩)
  | tuple {l : List Value} (h : PureL l) : PureV (.tuple ⟨l⟩)
  | iface (t : TypeId) {v : Value} (h : PureV v) : PureV (.iface t v)
  | func (f : FuncId) {l c : List Value} (h : PureL l) (hc : PureL c) : PureV (.func (.func f) ⟨l⟩ ⟨c⟩)
  | data (off : Nat) (p : Array FieldStep) (len : Nat) {es : List Value} (caps : List Value) (h : PureL es) : PureV (.func (.via off p len false) ⟨es⟩ ⟨caps⟩)
  | dataPtr (f : Nat) (p : Array FieldStep) (k : FuncId) {e : Value} (q : Array Value) (h : PureV e) : PureV (.func (.via f p k true) ⟨[e]⟩ q)
inductive PureL : List Value → Prop
  | nil : PureL []
  | cons {v : Value} {l : List Value} (h : PureV v) (hl : PureL l) : PureL (v :: l)
end
theorem PureL.mem : ∀ {l : List Value}, PureL l → ∀ v ∈ l, PureV v
  | _, .nil, v, hv => by cases hv
  | _, .cons h hl, v, hv => by
    rcases List.mem_cons.1 hv with rfl | hv
    · exact h
    · exact hl.mem v hv
theorem PureL.of : ∀ {l : List Value}, (∀ v ∈ l, PureV v) → PureL l
  | [], _ => .nil
  | x :: l, h => .cons (h x (by simp)) (PureL.of fun v hv => h v (by simp [hv]))
theorem PureL.append {l r : List Value} (hl : PureL l) (hr : PureL r) : PureL (l ++ r) := .of fun v hv => (List.mem_append.1 hv).elim (hl.mem v) (hr.mem v)
theorem PureL.ground : ∀ {l : List Value}, allGround l = true → PureL l
  | [], _ => .nil
  | v :: l, h => by
    rw [allGround_cons] at h
    cases e : Am.ground v with
    | false => rw [e] at h; cases h
    | true => rw [e] at h; exact .cons (.ground e) (PureL.ground h)

mutual
theorem VR.carry {m m2 : M} (hi : ∀ c l, m.im c = some l → m2.im c = some l) : ∀ {v v' : Value}, VR m v v' → PureV v → VR m2 v v'
  | _, _, .bool b, _ => .bool b
  | _, _, .int k n, _ => .int k n
  | _, _, .string s, _ => .string s
  | _, _, .ptr0, _ => .ptr0
  | _, _, .ptr h, hp => by cases hp with | ground h => cases h
  | _, _, .slice0 n c, _ => .slice0 n c
  | _, _, .slice h hc, hp => by cases hp with | ground h => cases h
  | _, _, .empty h, hp => by cases hp with | ground h => cases h
  | _, _, .map0, _ => .map0
  | _, _, .map h, hp => by cases hp with | ground h => cases h
  | _, _, .func f h hc, hp => by
    cases hp with
    | ground h => cases h
    | func _ p q => exact .func f (h.carry hi p) (hc.carry hi q)
  | _, _, .yield h, hp => by cases hp with | ground h => cases h
  | _, _, .nilFunc, _ => .nilFunc
  | _, _, .nilIface, _ => .nilIface
  | _, _, .iface t h, hp => by
    cases hp with
    | ground h => cases h
    | iface _ p => exact .iface t (h.carry hi p)
  | _, _, .agg h, hp => by
    cases hp with
    | ground h => cases h
    | agg p => exact .agg (h.carry hi p)
  | _, _, .tuple h, hp => by
    cases hp with
    | ground h => cases h
    | tuple p => exact .tuple (h.carry hi p)
  | _, _, .data h1 h hs hl hc hk, hp => by
    cases hp with
    | ground h => cases h
    | data _ _ _ _ p => exact .data (hi _ _ h1) (h.carry hi p) hs hl hc hk
  | _, _, .data0 ha hk, _ => .data0 ha hk
  | _, _, .dataPtr h1 h, hp => by
    cases hp with
    | ground h => cases h
    | dataPtr _ _ _ _ p => exact .dataPtr (hi _ _ h1) (h.carry hi p)
theorem LR.carry {m m2 : M} (hi : ∀ c l, m.im c = some l → m2.im c = some l) : ∀ {l l' : List Value}, LR m l l' → PureL l → LR m2 l l'
  | _, _, .nil, _ => .nil
  | _, _, .cons h hl, hp => by cases hp with | cons p q => exact .cons (h.carry hi p) (hl.carry hi q)
end

/-! ### What lies in memory, as data -/
mutual
inductive DatV (g : Nat → Option AObj) : Value → Value → Prop
  | pure {v : Value} (h : PureV v) : DatV g v v
  | agg {l d : List Value} (h : DatL g l d) : DatV g (.agg ⟨l⟩) (.agg ⟨d⟩)
  | tuple {l d : List Value} (h : DatL g l d) : DatV g (.tuple ⟨l⟩) (.tuple ⟨d⟩)
  | iface (t : TypeId) {v d : Value} (h : DatV g v d) : DatV g (.iface t v) (.iface t d)
  | slice0 : DatV g (.slice none 0 0) (dsl [] 0 0 [])
  | slice {b off len cap sz : Nat} {pre es post ds : List Value} {e : TypeId} {gr : Bool} (hg : g b = some (.cells (pre ++ (es.flatMap cellsL ++ post)) e gr)) (ho : off = pre.length) (hs : ∀ x ∈ es, (cellsL x).length = sz)
      (hl : len = es.length) (hc : len ≤ cap) (h : DatL g es ds) : DatV g (.slice (some ⟨b, off, none⟩) len cap) (dsl ds 0 len [])
inductive DatL (g : Nat → Option AObj) : List Value → List Value → Prop
  | nil : DatL g [] []
  | cons {v d : Value} {l r : List Value} (h : DatV g v d) (hl : DatL g l r) : DatL g (v :: l) (d :: r)
end
theorem DatL.length {g : Nat → Option AObj} : ∀ {l d : List Value}, DatL g l d → d.length = l.length
  | _, _, .nil => rfl
  | _, _, .cons _ hl => by simp [hl.length]
theorem DatL.pure {g : Nat → Option AObj} : ∀ {l : List Value}, PureL l → DatL g l l
  | _, .nil => .nil
  | _, .cons h hl => .cons (.pure h) (DatL.pure hl)

theorem LR.split {m : M} : ∀ {a b l : List Value}, LR m (a ++ b) l → ∃ a' b', l = a' ++ b' ∧ LR m a a' ∧ LR m b b'
  | [], b, l, h => ⟨[], l, rfl, .nil, h⟩
  | x :: a, b, l, h => by
    cases h with
    | cons hv hl =>
      obtain ⟨a', b', e, k1, k2⟩ := LR.split hl
      exact ⟨_ :: a', b', by rw [e]; rfl, .cons hv k1, k2⟩
theorem VR.uncell {m : M} {x : Value} {l : List Value} (h : LR m (cellsL x) l) : ∃ x', l = x'.cells.toList ∧ VR m x x' := by
  cases x with
  | agg cs => exact ⟨.agg ⟨l⟩, rfl, .agg h⟩
  | _ =>
    all_goals
      cases h with
      | cons hv hl =>
        cases hl with
        | nil =>
          refine ⟨_, ?_, hv⟩
          cases hv <;> rfl
theorem LR.unflat {m : M} : ∀ {es l : List Value}, LR m (es.flatMap cellsL) l → ∃ es', l = es'.flatMap (fun x => x.cells.toList) ∧ LR m es es'
  | [], l, h => by
    have h : LR m [] l := by simpa using h
    cases h
    exact ⟨[], rfl, .nil⟩
  | x :: es, l, h => by
    have h : LR m (cellsL x ++ es.flatMap cellsL) l := by simpa using h
    obtain ⟨a', b', rfl, k1, k2⟩ := h.split
    obtain ⟨x', e1, hx⟩ := VR.uncell k1
    obtain ⟨es', e2, hes⟩ := LR.unflat k2
    exact ⟨x' :: es', by rw [e1, e2]; simp, .cons hx hes⟩

section
variable {Γ : Ctx} {m m2 : M} {hD : Nat → Option AObj} {h : H} {w : World}
mutual
/-- What lies in memory that will never be written is data. -/
theorem VR.dat (I : Inv T Γ m hD h w) (ht : ∀ b, Γ.tch b) (hi : ∀ c l, m.im c = some l → m2.im c = some l)
    (hnew : ∀ b pl c e f, h.get b ≠ none → m b = some pl → w.heap[pl.blk]? = some (.cells c e f) → m2.im pl.blk = some c.toList) : ∀ {v v' d : Value}, DatV h.get v d → VR m v v' → VR m2 d v'
  | _, _, _, .pure hp, hv => hv.carry hi hp
  | _, _, _, .agg hd, hv => by cases hv with | agg h => exact .agg (LR.dat I ht hi hnew hd h)
  | _, _, _, .tuple hd, hv => by cases hv with | tuple h => exact .tuple (LR.dat I ht hi hnew hd h)
  | _, _, _, .iface t hd, hv => by cases hv with | iface _ h => exact .iface t (VR.dat I ht hi hnew hd h)
  | _, _, _, .slice0, hv => by cases hv; exact .data0 (fun _ => rfl) (.inl rfl)
  | _, _, _, .slice (b := b) (off := off) (sz := sz) (pre := pre) (es := es) (post := post) (ds := ds) (len := len) hg ho hs hl hc hd, hv => by
    have hdl := hd.length
    rcases hv.slice_inv with ⟨pl, cap', hm, hcap, rfl⟩ | ⟨h4, h5, pl, a, hm, rfl⟩
    · obtain ⟨c', pre2, post2, e', R⟩ := I.row hm hg (ht _)
      obtain ⟨p', r', rfl, k1, k2⟩ := R.rel.split
      obtain ⟨f', q', rfl, k3, k4⟩ := k2.split
      obtain ⟨es', rfl, k5⟩ := k3.unflat
      have him := hnew _ pl _ _ _ (by rw [hg]; simp) hm R.heap
      have hs' : ∀ x ∈ es', x.cells.toList.length = sz := fun x hx => by
        obtain ⟨i, hi, hxi⟩ := List.mem_iff_getElem.1 hx
        have hlt : i < es.length := by rw [← k5.length]; exact hi
        obtain ⟨x2, e2, hx2⟩ := k5.get (i := i) (List.getElem?_eq_getElem hlt)
        have : x2 = x := by rw [List.getElem?_eq_getElem hi, hxi] at e2; injection e2 with e2; exact e2.symm
        subst this
        rw [hx2.cells.length]
        exact hs _ (List.getElem_mem hlt)
      have key := VR.data (m := m2) (es := ds) (es' := es') (caps := []) (pre := pre2 ++ p') (post := q' ++ post2) (off := 0) (len := len) (cap' := cap') (c := pl.blk) (p := #[]) (by rw [him]; simp) (LR.dat I ht hi hnew hd k5) hs'
        (by omega) (Nat.le_trans hc (hcap.le R.pos)) (.inl rfl)
      have hpl : (pre2 ++ p').length + 0 * sz = pl.sh + off := by rw [List.length_append, R.pre, k1.length, Nat.zero_mul, Nat.add_zero, ← ho]
      rw [hpl] at key
      exact key
    · subst h4
      exact .data0 (fun h => by cases h) (.inl rfl)
theorem LR.dat (I : Inv T Γ m hD h w) (ht : ∀ b, Γ.tch b) (hi : ∀ c l, m.im c = some l → m2.im c = some l)
    (hnew : ∀ b pl c e f, h.get b ≠ none → m b = some pl → w.heap[pl.blk]? = some (.cells c e f) → m2.im pl.blk = some c.toList) : ∀ {l l' d : List Value}, DatL h.get l d → LR m l l' → LR m2 d l'
  | _, _, _, .nil, hv => by cases hv; exact .nil
  | _, _, _, .cons hd hl, hv => by cases hv with | cons h1 h2 => exact .cons (VR.dat I ht hi hnew hd h1) (LR.dat I ht hi hnew hl h2)
end
end
end Go.Am
/- Contracts: from a run in the empty memory to a call in any memory. -/
namespace Go.Am
open Go
variable {T : Tab} {P : Program}

/-- The memory of a call is given up: what it has laid will never be written. -/
def freezeAt (m : M) (w w' : World) : M :=
  ⟨m.at_, fun c => if c < w.heap.size then m.im c else match w'.heap[c]? with | some (.cells cs _ _) => some cs.toList | _ => none⟩
theorem freeze_inv {Γ : Ctx} {m m' : M} {hD hD' : Nat → Option AObj} {h h1 : H} {w w' : World} {N : Nat} (I : Inv T Γ m hD h w)
    (I' : Inv T ⟨w, ⟨fun _ => none, m.im⟩, fun _ => none, 0, N, fun _ => True, fun _ => True⟩ m' hD' h1 w') :
    MLe m (freezeAt m w w') ∧ Inv T Γ (freezeAt m w w') hD h w' ∧ (∀ c l, m'.im c = some l → (freezeAt m w w').im c = some l) ∧
      (∀ b pl c e f, h1.get b ≠ none → m' b = some pl → w'.heap[pl.blk]? = some (.cells c e f) → (freezeAt m w w').im pl.blk = some c.toList) := by
  have hold : ∀ c, c < w.heap.size → w'.heap[c]? = w.heap[c]? := I'.old
  have hlt : ∀ b pl, hD b ≠ none → m b = some pl → pl.blk < w.heap.size := fun b pl hb hm => by
    cases e : hD b with
    | none => exact absurd e hb
    | some o =>
      obtain ⟨pl', o', k1, k2, _⟩ := I.obj b o e
      rw [hm] at k1; injection k1 with k1; subst k1
      exact (Array.getElem?_eq_some_iff.1 k2).1
  have hle : MLe m (freezeAt m w w') := ⟨fun _ _ h => h, fun c l hc => by
    obtain ⟨⟨e, f, k⟩, _⟩ := I.imm c l hc
    show (if c < w.heap.size then m.im c else _) = some l
    rw [if_pos (Array.getElem?_eq_some_iff.1 k).1]; exact hc⟩
  refine ⟨hle, { obj := fun b o hb => ?_, inj := I.inj, old := fun c hc => ?_, size := Nat.le_trans I.size I'.size, young := I.young, same := I.same.trans I'.same, agree := I.agree, dom := I.dom, fresh := I.fresh, baseLe := I.baseLe,
                 keepM := I.keepM.trans hle, outM := I.outM, startLe := I.startLe, keepH := I.keepH, imm := fun c l hc => ?_, outIm := fun c hc => ?_ }, fun c l hc => ?_, fun b pl c e f hb hm hw => ?_⟩
  · obtain ⟨pl, o', k1, k2, k3⟩ := I.obj b o hb
    exact ⟨pl, o', k1, by rw [hold _ (Array.getElem?_eq_some_iff.1 k2).1]; exact k2, k3.mono hle⟩
  · have := I.size
    rw [hold c (by omega)]; exact I.old c hc
  · have hc : (if c < w.heap.size then m.im c else match w'.heap[c]? with | some (.cells cs _ _) => some cs.toList | _ => none) = some l := hc
    by_cases hq : c < w.heap.size
    · rw [if_pos hq] at hc
      obtain ⟨⟨e, f, k⟩, k2⟩ := I.imm c l hc
      exact ⟨⟨e, f, by rw [hold c hq]; exact k⟩, k2⟩
    · rw [if_neg hq] at hc
      split at hc
      · rename_i cs e f hw
        injection hc with hc
        refine ⟨⟨e, f, by rw [hw, ← hc]⟩, fun b pl hb hm => ?_⟩
        have := hlt b pl hb hm
        omega
      · cases hc
  · have := I.size
    show (if c < w.heap.size then m.im c else _) = _
    rw [if_pos (by omega)]; exact I.outIm c hc
  · show (if c < w.heap.size then m.im c else match w'.heap[c]? with | some (.cells cs _ _) => some cs.toList | _ => none) = some l
    by_cases hq : c < w.heap.size
    · rw [if_pos hq]
      have : m'.im c = m.im c := I'.outIm c hq
      rw [← this]; exact hc
    · rw [if_neg hq]
      obtain ⟨⟨e, f, k⟩, _⟩ := I'.imm c l hc
      rw [k]
  · have hd : hD' b = h1.get b := by
      cases e : h1.get b with
      | none => exact absurd e hb
      | some o => rw [I'.agree b (I'.dom b o e) trivial (by rw [hm]; simp), e]
    have hy : w.heap.size ≤ pl.blk := I'.young b pl (by rw [hd]; exact hb) hm
    show (if pl.blk < w.heap.size then m.im pl.blk else match w'.heap[pl.blk]? with | some (.cells cs _ _) => some cs.toList | _ => none) = some c.toList
    rw [if_neg (by omega), hw]

/-- How a call ends, as data. -/
inductive DatA (g : Nat → Option AObj) : Ans → H → Ans → Prop
  | ret {v d : Value} {h h1 : H} (hd : DatV g v d) : DatA g (.ret v h1 none) h (.ret d h none)
  | pan {v d : Value} {h h1 : H} (hd : DatV g v d) : DatA g (.pan [⟨v, false, false⟩] h1 none) h (.pan [⟨d, false, false⟩] h none)

theorem startInv {m : M} (N : Nat) (w : World) {Γ : Ctx} {hD : Nat → Option AObj} {h : H} (I : Inv T Γ m hD h w) :
    Inv T ⟨w, ⟨fun _ => none, m.im⟩, fun _ => none, 0, N, fun _ => True, fun _ => True⟩ ⟨fun _ => none, m.im⟩ (fun _ => none) H.empty w where
  obj := fun _ _ h => by cases h
  inj := fun _ _ _ _ h => absurd rfl h
  old := fun _ _ => rfl
  size := Nat.le_refl _
  young := fun _ _ h => absurd rfl h
  same := .refl _
  agree := fun _ h => absurd h (Nat.not_lt_zero _)
  dom := fun _ _ h => by cases h
  fresh := fun _ _ _ => ⟨rfl, rfl⟩
  baseLe := Nat.le_refl _
  keepM := .refl _
  outM := fun _ _ => rfl
  startLe := Nat.le_refl _
  keepH := fun _ _ => rfl
  imm := fun c l hc => ⟨(I.imm c l hc).1, fun _ _ h => absurd rfl h⟩
  outIm := fun _ _ => rfl

/-- A run in the empty memory, on data, to data: so is every call. -/
theorem contract (tok : TabOK T P) {ev : Task → Ans} (hev : EvS T P ev) {g : FuncId} {args : List Value} {r d : Ans} {h1 : H} (hp : PureL args) (hrun : callFn T ev g args H.empty none (T.func g) = r) (hf : r.fin = some (h1, none))
    {h : H} (hd : DatA h1.get r h d) : CallS T P (.func (.func g) #[] #[]) args h none d := by
  have hdf : d.fin = some (h, none) := by cases hd <;> rfl
  intro h' ab' hfin
  rw [hdf] at hfin
  injection hfin with hfin; injection hfin with e1 e2; subst e1; subst e2
  refine ⟨.refl _, fun Γ m hD K f' args' cab w hK F I hv hl hpr hk => ?_⟩
  cases hT : T.func g with
  | none => rw [hT] at hrun; subst hrun; cases hf
  | some fn =>
    obtain ⟨hfn, hok⟩ := tok.func g fn hT
    rw [hT] at hrun
    have hb : bodyRun T ev g args H.empty none fn fn.body = r := hrun
    cases hc : fn.body with
    | none => rw [hc] at hb; subst hb; cases hf
    | some c =>
      rw [hc] at hb
      have hn : (fn.name == "runtime.NumGoroutine") = false := by
        unfold funcOK at hok
        rw [hc] at hok
        have hok : (!(fn.name == "runtime.NumGoroutine") && codeOK fn.ntmps c) = true := hok
        rw [Bool.and_eq_true] at hok
        simpa using hok.1
      obtain ⟨_, hx⟩ := body_sound tok hev hT hc (args := args) (h := H.empty) (ab := none) h1 none (by rw [hb]; exact hf)
      obtain ⟨m', hD', cab', w', cr, fr', k1, k2, k3, k4, k5, k6, k7⟩ := hx ⟨w, ⟨fun _ => none, m.im⟩, fun _ => none, 0, h1.next, fun _ => True, fun _ => True⟩ ⟨fun _ => none, m.im⟩ (fun _ => none) K args' cab w
        ⟨Nat.le_refl _, fun _ _ => ⟨trivial, trivial⟩, fun _ _ => trivial, fun _ _ => trivial, fun _ _ => trivial⟩ (startInv _ w I) (LR.carry (m := m) (m2 := ⟨fun _ => none, m.im⟩) (fun _ _ h => h) hl hp) (by cases hpr; exact .none) hk
      rw [hb] at k5
      obtain ⟨q1, q2, q3, q4⟩ := freeze_inv I k2
      have hvf : f' = .func (.func g) #[] #[] := by
        cases hv with
        | func _ a b => cases a; cases b; rfl
      subst hvf
      refine ⟨.enter g ⟨args'⟩, _, ?_, rfl, freezeAt m w w', hD, cab', w', cr, q1, q2, (by cases k3; exact .none), k4, ?_, leave_sound ?_ k3 k7 k6⟩
      · have := run_callFunc hfn hn hc (⟨args'⟩ : Array Value) w
        simpa [callSem, Deferred.ofValue, invoke] using this
      · cases hd with
        | ret hd =>
          cases k5 with
          | ret hvr => exact .ret (VR.dat k2 (fun _ => trivial) q3 q4 hd hvr)
        | pan hd =>
          cases k5 with
          | pan hvr =>
            cases hvr with
            | cons hvr hnil =>
              cases hnil
              exact .pan (.cons (VR.dat k2 (fun _ => trivial) q3 q4 hd hvr) .nil)
      · rcases hK with h | h
        · exact .inl h
        · exact .inr h.1
end Go.Am
