/- Control: frames, calls, what a run of code leads to. -/
import Derived.Test.YtkdfgoimgcegfaaGreatDoorAmExec
set_option linter.unusedSectionVars false
set_option linter.unusedSimpArgs false
set_option linter.unusedVariables false
namespace Go.Am
open Go
variable {T : Tab} {P : Program}

theorem execOp_call {tm : Tr Value} {h : H} {o : Oper} {f : Value} {args : List Value} (e : Am.execOp T tm o.type h o.op = .call f args) :
    ∃ fo as ts, o.op = .call ⟨.value fo, as, ts⟩ ∧ opv tm fo = some f ∧ opvs tm as.toList = some args := by
  obtain ⟨dst, op, type, pos, after, guard⟩ := o
  cases op
  case call c =>
    obtain ⟨callee, as, ts⟩ := c
    have e : callOf T tm h ts type callee (opvs tm as.toList) = .call f args := e
    cases ha : opvs tm as.toList with
    | none => rw [ha] at e; cases e
    | some l =>
      rw [ha] at e
      cases callee with
      | value fo =>
        have e : callTo l (opv tm fo) = .call f args := e
        cases hf : opv tm fo with
        | none => rw [hf] at e; cases e
        | some u => rw [hf] at e; injection e with e1 e2; subst e1; subst e2; exact ⟨fo, as, ts, rfl, hf, ha⟩
      | invoke r n => cases e
      | builtin b =>
        have e : builtinOf T h ts type l b = .call f args := e
        cases b <;> first | (cases e; done) | (rcases l with _ | ⟨x, _ | ⟨y, _ | ⟨z, q⟩⟩⟩ <;> cases e)
  case defer c =>
    obtain ⟨callee, as, ts⟩ := c
    have e : deferOf tm callee (opvs tm as.toList) = .call f args := e
    cases ha : opvs tm as.toList with
    | none => rw [ha] at e; cases e
    | some l =>
      rw [ha] at e
      cases callee with
      | value fo =>
        have e : deferTo l (opv tm fo) = .call f args := e
        cases hf : opv tm fo <;> rw [hf] at e <;> cases e
      | _ => cases e
  case panic x =>
    have e : panOf (opv tm x) = .call f args := e
    cases hx : opv tm x with
    | none => rw [hx] at e; cases e
    | some u => rw [hx] at e; cases u <;> cases e
  all_goals cases e
theorem execOp_dfr {tm : Tr Value} {h : H} {o : Oper} {f : Value} {args : List Value} (e : Am.execOp T tm o.type h o.op = .dfr f args) :
    ∃ fo as ts, o.op = .defer ⟨.value fo, as, ts⟩ ∧ opv tm fo = some f ∧ opvs tm as.toList = some args := by
  obtain ⟨dst, op, type, pos, after, guard⟩ := o
  cases op
  case call c =>
    obtain ⟨callee, as, ts⟩ := c
    have e : callOf T tm h ts type callee (opvs tm as.toList) = .dfr f args := e
    cases ha : opvs tm as.toList with
    | none => rw [ha] at e; cases e
    | some l =>
      rw [ha] at e
      cases callee with
      | value fo =>
        have e : callTo l (opv tm fo) = .dfr f args := e
        cases hf : opv tm fo <;> rw [hf] at e <;> cases e
      | invoke r n => cases e
      | builtin b =>
        have e : builtinOf T h ts type l b = .dfr f args := e
        cases b <;> first | (cases e; done) | (rcases l with _ | ⟨x, _ | ⟨y, _ | ⟨z, q⟩⟩⟩ <;> cases e)
  case defer c =>
    obtain ⟨callee, as, ts⟩ := c
    have e : deferOf tm callee (opvs tm as.toList) = .dfr f args := e
    cases ha : opvs tm as.toList with
    | none => rw [ha] at e; cases e
    | some l =>
      rw [ha] at e
      cases callee with
      | value fo =>
        have e : deferTo l (opv tm fo) = .dfr f args := e
        cases hf : opv tm fo with
        | none => rw [hf] at e; cases e
        | some u => rw [hf] at e; injection e with e1 e2; subst e1; subst e2; exact ⟨fo, as, ts, rfl, hf, ha⟩
      | _ => cases e
  case panic x =>
    have e : panOf (opv tm x) = .dfr f args := e
    cases hx : opv tm x with
    | none => rw [hx] at e; cases e
    | some u => rw [hx] at e; cases u <;> cases e
  all_goals cases e
theorem execOp_pan {tm : Tr Value} {h : H} {o : Oper} {v : Value} (e : Am.execOp T tm o.type h o.op = .pan v) : ∃ x t u, o.op = .panic x ∧ opv tm x = some (.iface t u) ∧ v = .iface t u := by
  obtain ⟨dst, op, type, pos, after, guard⟩ := o
  cases op
  case call c =>
    obtain ⟨callee, as, ts⟩ := c
    have e : callOf T tm h ts type callee (opvs tm as.toList) = .pan v := e
    cases ha : opvs tm as.toList with
    | none => rw [ha] at e; cases e
    | some l =>
      rw [ha] at e
      cases callee with
      | value fo =>
        have e : callTo l (opv tm fo) = .pan v := e
        cases hf : opv tm fo <;> rw [hf] at e <;> cases e
      | invoke r n => cases e
      | builtin b =>
        have e : builtinOf T h ts type l b = .pan v := e
        cases b <;> first | (cases e; done) | (rcases l with _ | ⟨x, _ | ⟨y, _ | ⟨z, q⟩⟩⟩ <;> cases e)
  case defer c =>
    obtain ⟨callee, as, ts⟩ := c
    have e : deferOf tm callee (opvs tm as.toList) = .pan v := e
    cases ha : opvs tm as.toList with
    | none => rw [ha] at e; cases e
    | some l =>
      rw [ha] at e
      cases callee with
      | value fo =>
        have e : deferTo l (opv tm fo) = .pan v := e
        cases hf : opv tm fo <;> rw [hf] at e <;> cases e
      | _ => cases e
  case panic x =>
    have e : panOf (opv tm x) = .pan v := e
    cases hx : opv tm x with
    | none => rw [hx] at e; cases e
    | some u =>
      rw [hx] at e
      cases u <;> first | (cases e; done) | (injection e with e; exact ⟨x, _, _, rfl, hx, e.symm⟩)
  all_goals cases e
theorem execOp_recov {tm : Tr Value} {h : H} {o : Oper} (e : Am.execOp T tm o.type h o.op = .recov) : ∃ as ts, o.op = .call ⟨.builtin .recover, as, ts⟩ := by
  obtain ⟨dst, op, type, pos, after, guard⟩ := o
  cases op
  case call c =>
    obtain ⟨callee, as, ts⟩ := c
    have e : callOf T tm h ts type callee (opvs tm as.toList) = .recov := e
    cases ha : opvs tm as.toList with
    | none => rw [ha] at e; cases e
    | some l =>
      rw [ha] at e
      cases callee with
      | value fo =>
        have e : callTo l (opv tm fo) = .recov := e
        cases hf : opv tm fo <;> rw [hf] at e <;> cases e
      | invoke r n => cases e
      | builtin b =>
        have e : builtinOf T h ts type l b = .recov := e
        cases b <;> first | exact ⟨as, ts, rfl⟩ | (cases e; done) | (rcases l with _ | ⟨x, _ | ⟨y, _ | ⟨z, q⟩⟩⟩ <;> cases e)
  case defer c =>
    obtain ⟨callee, as, ts⟩ := c
    have e : deferOf tm callee (opvs tm as.toList) = .recov := e
    cases ha : opvs tm as.toList with
    | none => rw [ha] at e; cases e
    | some l =>
      rw [ha] at e
      cases callee with
      | value fo =>
        have e : deferTo l (opv tm fo) = .recov := e
        cases hf : opv tm fo <;> rw [hf] at e <;> cases e
      | _ => cases e
  case panic x =>
    have e : panOf (opv tm x) = .recov := e
    cases hx : opv tm x with
    | none => rw [hx] at e; cases e
    | some u => rw [hx] at e; cases u <;> cases e
  all_goals cases e

/-! ### Frames -/
/-- Who waits for a frame: callers as they lie; or a frame that has deferred it, whose panics may be recovered. -/
inductive Kt where
  | plain (cs : List Frame)
  | under (c : Frame) (rest : List Frame)
def modeOf : Option (List PanicEntry) → FrameMode
  | none => .returning
  | some chain => .panicking chain
def Kt.cs : Kt → Option (List PanicEntry) → List Frame
  | .plain cs, _ => cs
  | .under c rest, m => { c with mode := modeOf m } :: rest
def Kt.kind : Kt → CallKind
  | .plain _ => .normal
  | .under .. => .deferred
def Kt.ok : Kt → Option (List PanicEntry) → Prop
  | .plain _, ab => ab = none
  | .under .., _ => True
inductive RoundR (m : M) : Option Nat → Option Nat → Prop
  | none : RoundR m none none
  | some {l : Nat} {pl : Pl} (h : m l = some pl) : RoundR m (some l) (some pl.blk)
theorem RoundR.mono {m m' : M} (hm : MLe m m') {a b : Option Nat} : RoundR m a b → RoundR m' a b
  | .none => .none
  | .some h => .some (hm.to _ _ h)

/-- Where a run of code comes to. -/
def Arr (P : Program) (M0 : Machine) (b : Frame) (k : List Item) (cs : List Frame) (m : M) (a : Act) (w : World) : Ex → Prop
  | .normal => Steps P M0 (lone (b.atR a k) cs w)
  | .exit id => ∃ k1, exitTo id k1 = exitTo id k ∧ Steps P M0 (lone (b.atR a (.code (.exit id) :: k1)) cs w)
  | .ret => ∃ k1, Steps P M0 (lone (b.atR a (.code .ret :: k1)) cs w)
  | .panic chain => ∃ todo chain', CR m chain chain' ∧ Steps P M0 (lone { b.atR a todo with mode := .panicking chain' } cs w)
theorem Arr.of_steps {M0 M1 : Machine} {b : Frame} {k : List Item} {cs : List Frame} {m : M} {a : Act} {w : World} {e : Ex} (h : Steps P M0 M1) (h' : Arr P M1 b k cs m a w e) : Arr P M0 b k cs m a w e := by
  cases e with
  | normal => exact h.trans h'
  | exit id => obtain ⟨k1, h1, h2⟩ := h'; exact ⟨k1, h1, h.trans h2⟩
  | ret => obtain ⟨k1, h1⟩ := h'; exact ⟨k1, h.trans h1⟩
  | panic ch => obtain ⟨t, c, h1, h2⟩ := h'; exact ⟨t, c, h1, h.trans h2⟩

/-- The slots, the deferred calls and the panics above, as they are related. -/
structure StR (T : Tab) (Γ : Ctx) (m : M) (hD : Nat → Option AObj) (K : Kt) (nt : Nat) (s : S) (a : Act) (cab : Option (List PanicEntry)) (w : World) : Prop where
  inv : Inv T Γ m hD s.h w
  tm : TR m s.tm a.tmps
  nt : a.tmps.size = nt
  df : DR m s.df a.defers
  ab : PR m s.ab cab
  kok : K.ok s.ab

/-- What holds of a run: from related states to related states. -/
def RunS (T : Tab) (P : Program) (fr : Fr) (nt : Nat) (s : S) (e : Ex) (s' : S) (items : List Item → List Item) : Prop :=
  Le s.h s'.h ∧ ∀ Γ m hD K (b : Frame) k a cab w, Fin Γ s'.h → StR T Γ m hD K nt s a cab w → b.kind = K.kind → b.fn = fr.fn → RoundR m fr.round b.roundOf →
    ∃ m' hD' a' cab' w', MLe m m' ∧ StR T Γ m' hD' K nt s' a' cab' w' ∧ Arr P (lone (b.atR a (items k)) (K.cs cab) w) b k (K.cs cab') m' a' w' e
def CodeS (T : Tab) (P : Program) (fr : Fr) (nt : Nat) (c : Code) (s : S) (e : Ex) (s' : S) : Prop := RunS T P fr nt s e s' (fun k => .code c :: k)
end Go.Am
/- Code: what the abstract machine says of it, against the model's steps. -/
namespace Go.Am
open Go
variable {T : Tab} {P : Program}

inductive CRes where
  | ret (v : Value)
  | pan (chain : List PanicEntry)
inductive RR (m : M) : Ans → CRes → Prop
  | ret {v v' : Value} {h : H} {ab : Option (List PanicEntry)} (hv : VR m v v') : RR m (.ret v h ab) (.ret v')
  | pan {c c' : List PanicEntry} {h : H} {ab : Option (List PanicEntry)} (hc : CR m c c') : RR m (.pan c h ab) (.pan c')
def Ans.fin : Ans → Option (H × Option (List PanicEntry))
  | .ret _ h ab => some (h, ab)
  | .pan _ h ab => some (h, ab)
  | _ => none
def startFrame (P : Program) (kind : CallKind) : Next → Option Frame
  | .enter f args => some (Frame.enter P f args kind)
  | .round l f tmps assign body => some (Frame.round l f tmps assign body kind)
  | _ => none
/-- Behind a call: the frame that waits goes on. -/
def After (P : Program) (M0 : Machine) (cab : Option (List PanicEntry)) (w : World) : Kt → CRes → Prop
  | .plain (c :: cs), .ret v => Steps P M0 (lone (c.finish v) cs w)
  | .plain (c :: cs), .pan ch => Steps P M0 (lone (c.raise ch) cs w)
  | .plain [], _ => False
  | .under c rest, .ret _ => Steps P M0 (lone { c with mode := modeOf (settled cab) } rest w)
  | .under c rest, .pan ch => Steps P M0 (lone { c with mode := modeOf (some (ch ++ cab.getD [])) } rest w)
/-- Who may call what: a deferred call is one of a function. -/
def Kt.may (K : Kt) (f : Value) : Prop := (∃ c cs, K = .plain (c :: cs)) ∨ ((∃ c r, K = .under c r) ∧ ∃ g p q, f = .func (.func g) p q)
def callSem (f : Value) (args : List Value) : Sem Next := do let d ← Deferred.ofValue f ⟨args⟩; invoke d.target d.args
def CallS (T : Tab) (P : Program) (f : Value) (args : List Value) (h : H) (ab : Option (List PanicEntry)) (r : Ans) : Prop :=
  ∀ h' ab', r.fin = some (h', ab') → Le h h' ∧ ∀ Γ m hD K f' args' cab w, K.may f → Fin Γ h' → Inv T Γ m hD h w → VR m f f' → LR m args args' → PR m ab cab → K.ok ab →
    ∃ nx fr0, (callSem f' args').run P w = .ok nx w ∧ startFrame P K.kind nx = some fr0 ∧
      ∃ m' hD' cab' w' cr, MLe m m' ∧ Inv T Γ m' hD' h' w' ∧ PR m' ab' cab' ∧ K.ok ab' ∧ RR m' r cr ∧ After P (lone fr0 (K.cs cab) w) cab' w' K cr
/-- A frame that is about to leave. -/
def Leav (P : Program) (kind : CallKind) (g : FuncId) (fr : Frame) (w : World) : CRes → Prop
  | .ret v => fr.fn = g ∧ fr.mode = .returning ∧ fr.defers = [] ∧ fr.kind = kind ∧ ∃ fn, P.funcs[g]? = some fn ∧ (Go.results fn fr.tmps).run P w = .ok v w
  | .pan ch => fr.fn = g ∧ fr.mode = .panicking ch ∧ fr.defers = [] ∧ fr.kind = kind ∧ ∃ fn, P.funcs[g]? = some fn
def UnwS (T : Tab) (P : Program) (fn : Func) (s : S) (mode : Option (List PanicEntry)) (r : Ans) : Prop :=
  ∀ h' ab', r.fin = some (h', ab') → Le s.h h' ∧ ∀ Γ m hD K (b : Frame) todo a cab cmode w, P.funcs[b.fn]? = some fn → b.kind = K.kind → b.roundOf = none → Fin Γ h' →
    StR T Γ m hD K a.tmps.size s a cab w → PR m mode cmode →
    ∃ m' hD' cab' w' cr fr', MLe m m' ∧ Inv T Γ m' hD' h' w' ∧ PR m' ab' cab' ∧ K.ok ab' ∧ RR m' r cr ∧
      Steps P (lone { b.atR a todo with mode := modeOf cmode } (K.cs cab) w) (lone fr' (K.cs cab') w') ∧ Leav P K.kind b.fn fr' w' cr
/-- What is known of the evaluator, one level down. -/
structure EvS (T : Tab) (P : Program) (ev : Task → Ans) : Prop where
  call : ∀ f args h ab, CallS T P f args h ab (ev (.call f args h ab))
  loop : ∀ fr b s e s' nt, ev (.loop fr b s) = .code e s' → codeOK nt b = true → RunS T P fr nt s e s' (fun k => .inLoop b :: k)
  run : ∀ fr c s e s' nt, ev (.run fr c s) = .code e s' → codeOK nt c = true → CodeS T P fr nt c s e s'
  unw : ∀ fn s mode, UnwS T P fn s mode (ev (.unwind fn s mode))

/-! ### Small rules -/
section rules
variable {fr : Fr} {nt : Nat} {s s1 s' : S}
theorem RunS.refl (items : List Item → List Item) (h : ∀ (b : Frame) k a cs w, Steps P (lone (b.atR a (items k)) cs w) (lone (b.atR a k) cs w)) : RunS T P fr nt s .normal s items :=
  ⟨.refl _, fun _ m hD _ b k a cab w _ st _ _ _ => ⟨m, hD, a, cab, w, .refl _, st, h b k a _ w⟩⟩
/-- One step ahead. -/
theorem RunS.head {e : Ex} {items items' : List Item → List Item} (h : RunS T P fr nt s e s' items') (hs : ∀ (b : Frame) k a cs w, Steps P (lone (b.atR a (items k)) cs w) (lone (b.atR a (items' k)) cs w)) :
    RunS T P fr nt s e s' items := by
  refine ⟨h.1, fun Γ m hD K b k a cab w F st h1 h2 h3 => ?_⟩
  obtain ⟨m', hD', a', cab', w', k1, k2, k3⟩ := h.2 Γ m hD K b k a cab w F st h1 h2 h3
  exact ⟨m', hD', a', cab', w', k1, k2, .of_steps (hs b k a _ w) k3⟩
/-- One run behind another that ends normally; the first may end otherwise, too. -/
theorem RunS.seq {e : Ex} {i1 i2 : List Item → List Item} (h1 : RunS T P fr nt s .normal s1 i1) (h2 : RunS T P fr nt s1 e s' i2) : RunS T P fr nt s e s' (fun k => i1 (i2 k)) := by
  refine ⟨h1.1.trans h2.1, fun Γ m hD K b k a cab w F st g1 g2 g3 => ?_⟩
  obtain ⟨m1, hD1, a1, cab1, w1, k1, k2, k3⟩ := h1.2 Γ m hD K b (i2 k) a cab w (F.of_le h2.1) st g1 g2 g3
  obtain ⟨m2, hD2, a2, cab2, w2, j1, j2, j3⟩ := h2.2 Γ m1 hD1 K b k a1 cab1 w1 F k2 g1 g2 (g3.mono k1)
  exact ⟨m2, hD2, a2, cab2, w2, k1.trans j1, j2, .of_steps k3 j3⟩
/-- What is ahead of a jump, a return or a panic makes no difference to it. -/
theorem RunS.pass {e : Ex} {i1 : List Item → List Item} (i2 : List Item → List Item) (h1 : RunS T P fr nt s e s' i1) (hn : e ≠ .normal) (hx : ∀ id k, exitTo id (i2 k) = exitTo id k) :
    RunS T P fr nt s e s' (fun k => i1 (i2 k)) := by
  refine ⟨h1.1, fun Γ m hD K b k a cab w F st g1 g2 g3 => ?_⟩
  obtain ⟨m1, hD1, a1, cab1, w1, k1, k2, k3⟩ := h1.2 Γ m hD K b (i2 k) a cab w F st g1 g2 g3
  refine ⟨m1, hD1, a1, cab1, w1, k1, k2, ?_⟩
  cases e with
  | normal => exact absurd rfl hn
  | exit id => obtain ⟨q, q1, q2⟩ := k3; exact ⟨q, by rw [q1, hx], q2⟩
  | ret => exact k3
  | panic ch => exact k3
end rules

theorem exitTo_code (id : Nat) (c : Code) (k : List Item) : exitTo id (.code c :: k) = exitTo id k := rfl
theorem exitTo_loop (id : Nat) (c : Code) (k : List Item) : exitTo id (.inLoop c :: k) = exitTo id k := rfl
theorem exitTo_scope (id : Nat) (c : Code) (k : List Item) : exitTo id (.inScope c :: k) = exitTo id k := rfl
theorem stepR_scope {b : Frame} {a : Act} {k : List Item} {cs : List Frame} {w : World} {c : Code} :
    step P (lone (b.atR a (.code (.scope c) :: k)) cs w) = .next (lone (b.atR a (.code c :: .inScope c :: k)) cs w) :=
  step_lone_go (by simp [stepG, stepG.exec, Frame.atR])
theorem stepR_inScope {b : Frame} {a : Act} {k : List Item} {cs : List Frame} {w : World} {c : Code} :
    step P (lone (b.atR a (.inScope c :: k)) cs w) = .next (lone (b.atR a k) cs w) :=
  step_lone_go (by simp [stepG, stepG.exec, Frame.atR])

theorem eval_of_TR {m : M} {tm : Tr Value} {a : Act} (h : TR m tm a.tmps) {x : Operand} {u : Value} (e : opv tm x = some u) (hc : constOK x = true) : VR m u (a.eval x) := by
  cases x with
  | tmp t =>
    obtain ⟨v', h1, h2⟩ := h t u e
    show VR m u (a.tmps.getD t undef)
    rw [Array.getD_eq_getD_getElem?, h1]; exact h2
  | const v => have e : some v = some u := e; injection e with e; subst e; exact VR.refl_deep m hc
  | global g => cases e
  | func f => have e : some (.func (.func f) #[] #[]) = some u := e; injection e with e; subst e; exact .func f .nil .nil
end Go.Am
/- One operation of a region, against the model's step. -/
namespace Go.Am
open Go
variable {T : Tab} {P : Program}

theorem not_defer {tm : Tr Value} {h : H} {o : Oper} {r : Res} (e : Am.execOp T tm o.type h o.op = .of r) (hr : r ≠ .fail) : ∀ c, o.op ≠ .defer c := by
  obtain ⟨dst, op, type, pos, after, guard⟩ := o
  rintro c rfl
  obtain ⟨callee, as, ts⟩ := c
  have e : deferOf tm callee (opvs tm as.toList) = .of r := e
  cases ha : opvs tm as.toList with
  | none => rw [ha] at e; injection e with e; exact hr e.symm
  | some l =>
    rw [ha] at e
    cases callee with
    | value fo =>
      have e : deferTo l (opv tm fo) = .of r := e
      cases hf : opv tm fo with
      | none => rw [hf] at e; injection e with e; exact hr e.symm
      | some u => rw [hf] at e; cases e
    | _ => injection e with e; exact hr e.symm

section steps
variable {b : Frame} {a : Act} {k : List Item} {cs : List Frame} {w w' : World} {ops : Array Oper} {i : Nat} {rest : List Nat} {o : Oper}
theorem finish_at (ho : ops[i]? = some o) (v : Value) : (b.atR a (.inRegion ops (i :: rest) :: k)).finish v = b.atR (a.put o.dst v) (.inRegion ops rest :: k) := by
  rw [Frame.finish_atR, ho]; rfl
theorem step_val (ho : ops[i]? = some o) (hw : Region.wanted o (yielded ops a.tmps) = true) (hd : ∀ c, o.op ≠ .defer c) {v : Value}
    (hr : (Go.execOp a.eval o).run P w = .ok (.value v) w' ∨ ((Go.execOp a.eval o).run P w = .ok .skip w' ∧ v = undef)) :
    step P (lone (b.atR a (.inRegion ops (i :: rest) :: k)) cs w) = .next (lone (b.atR (a.put o.dst v) (.inRegion ops rest :: k)) cs w') := by
  refine step_lone_go ?_
  rw [stepGR_op ho hw, ← finish_at ho v, Oper.semAt_eq _ _ _ hd]
  rcases hr with hr | ⟨hr, rfl⟩ <;> simp [stepG.apply, Sem.runT_eq, hr]
theorem step_start (ho : ops[i]? = some o) (hw : Region.wanted o (yielded ops a.tmps) = true) (hd : ∀ c, o.op ≠ .defer c) {nx : Next} {fr0 : Frame}
    (hr : (Go.execOp a.eval o).run P w = .ok nx w') (hs : startFrame P .normal nx = some fr0) :
    step P (lone (b.atR a (.inRegion ops (i :: rest) :: k)) cs w) = .next (lone fr0 (b.atR a (.inRegion ops (i :: rest) :: k) :: cs) w') := by
  refine step_lone_go ?_
  rw [stepGR_op ho hw, Oper.semAt_eq _ _ _ hd]
  cases nx <;> first
    | (cases hs; done)
    | (injection hs with hs; subst hs; simp [stepG.apply, Sem.runT_eq, hr, Frame.atR])
theorem step_defer (ho : ops[i]? = some o) (hw : Region.wanted o (yielded ops a.tmps) = true) (hb : b.roundOf = none) {d : Deferred} (hr : (Go.execOp a.eval o).run P w = .ok (.defer d) w') :
    step P (lone (b.atR a (.inRegion ops (i :: rest) :: k)) cs w) = .next (lone (b.atR ({ a with defers := d :: a.defers }.put o.dst undef) (.inRegion ops rest :: k)) cs w') := by
  refine step_lone_go ?_
  rw [stepGR_op ho hw, hb, Oper.semAt_none]
  have := finish_at (b := b) (a := { a with defers := d :: a.defers }) (k := k) (rest := rest) ho undef
  rw [← this]
  simp [stepG.apply, Sem.runT_eq, hr, Frame.atR]
theorem step_panic (ho : ops[i]? = some o) (hw : Region.wanted o (yielded ops a.tmps) = true) (hd : ∀ c, o.op ≠ .defer c) {v : Value} (hr : (Go.execOp a.eval o).run P w = .halt (.panic v) w') :
    step P (lone (b.atR a (.inRegion ops (i :: rest) :: k)) cs w) = .next (lone { b.atR a (.inRegion ops (i :: rest) :: k) with mode := .panicking [⟨v, false, false⟩] } cs w') := by
  refine step_lone_go ?_
  rw [stepGR_op ho hw, Oper.semAt_eq _ _ _ hd]
  simp [stepG.apply, Sem.runT_eq, hr, Frame.raise, Frame.atR]
theorem step_recover_none (ho : ops[i]? = some o) (hw : Region.wanted o (yielded ops a.tmps) = true) (hd : ∀ c, o.op ≠ .defer c) (hb : b.roundOf = none) (hr : (Go.execOp a.eval o).run P w = .ok .recover w')
    (ht : tryRecover (b.atR a (.inRegion ops (i :: rest) :: k)) cs = none) :
    step P (lone (b.atR a (.inRegion ops (i :: rest) :: k)) cs w) = .next (lone (b.atR (a.put o.dst .nilIface) (.inRegion ops rest :: k)) cs w') := by
  refine step_lone_go ?_
  have hq : (b.atR a (.inRegion ops (i :: rest) :: k)).roundOf = none := hb
  rw [stepGR_op ho hw, ← finish_at ho .nilIface, Oper.semAt_eq _ _ _ hd]
  simp [stepG.apply, Sem.runT_eq, hr, ht, hq]
theorem step_recover_some (ho : ops[i]? = some o) (hw : Region.wanted o (yielded ops a.tmps) = true) (hd : ∀ c, o.op ≠ .defer c) (hb : b.roundOf = none) (hr : (Go.execOp a.eval o).run P w = .ok .recover w') {v : Value} {cs' : List Frame}
    (ht : tryRecover (b.atR a (.inRegion ops (i :: rest) :: k)) cs = some (v, cs')) :
    step P (lone (b.atR a (.inRegion ops (i :: rest) :: k)) cs w) = .next (lone (b.atR (a.put o.dst v) (.inRegion ops rest :: k)) cs' w') := by
  refine step_lone_go ?_
  have hq : (b.atR a (.inRegion ops (i :: rest) :: k)).roundOf = none := hb
  rw [stepGR_op ho hw, ← finish_at ho v, Oper.semAt_eq _ _ _ hd]
  simp [stepG.apply, Sem.runT_eq, hr, ht, hq]
end steps

/-- One operation of a region is done, and the region goes on. -/
def OneS (T : Tab) (P : Program) (fr : Fr) (nt : Nat) (all : Array Oper) (i : Nat) (s s1 : S) : Prop :=
  Le s.h s1.h ∧ ∀ Γ m hD K (b : Frame) rest k a cab w, Fin Γ s1.h → StR T Γ m hD K nt s a cab w → b.kind = K.kind → b.fn = fr.fn → RoundR m fr.round b.roundOf →
    ∃ m' hD' a' cab' w', MLe m m' ∧ StR T Γ m' hD' K nt s1 a' cab' w' ∧
      Steps P (lone (b.atR a (.inRegion all (i :: rest) :: k)) (K.cs cab) w) (lone (b.atR a' (.inRegion all rest :: k)) (K.cs cab') w')
/-- One operation of a region panics. -/
def OneP (T : Tab) (P : Program) (fr : Fr) (nt : Nat) (all : Array Oper) (i : Nat) (s : S) (ch : List PanicEntry) (s1 : S) : Prop :=
  Le s.h s1.h ∧ ∀ Γ m hD K (b : Frame) rest k a cab w, Fin Γ s1.h → StR T Γ m hD K nt s a cab w → b.kind = K.kind → b.fn = fr.fn → RoundR m fr.round b.roundOf →
    ∃ m' hD' a' cab' w', MLe m m' ∧ StR T Γ m' hD' K nt s1 a' cab' w' ∧ ∃ todo ch', CR m' ch ch' ∧
      Steps P (lone (b.atR a (.inRegion all (i :: rest) :: k)) (K.cs cab) w) (lone { b.atR a' todo with mode := .panicking ch' } (K.cs cab') w')

theorem opOK_dst {nt : Nat} {o : Oper} (h : opOK nt o = true) : dstIn nt o.dst ∧ ∀ x ∈ opnds o.op, constOK x = true := by
  unfold opOK at h
  rw [Bool.and_eq_true] at h
  refine ⟨fun d hd => ?_, fun x hx => (List.all_eq_true.1 h.2) x hx⟩
  have := h.1
  unfold dstOK at this
  rw [hd] at this
  exact nble_true this
theorem wanted_gen {m : M} {tm : Tr Value} {a : Act} {all : Array Oper} {o : Oper} {q : Bool}
    (hT : ∀ g want x d v, o.guard = some (g, want) → all.toList[g]? = some x → x.dst = some d → tm.get d = some v → ∃ v', a.tmps[d]? = some v' ∧ VR m v v') (e : Am.wanted all tm o.guard = some q) : Region.wanted o (yielded all a.tmps) = q := by
  unfold Region.wanted
  cases hg : o.guard with
  | none => rw [hg] at e; have e : some true = some q := e; injection e
  | some gw =>
    obtain ⟨g, want⟩ := gw
    rw [hg] at e
    have e : boolIs want (yieldedT tm all.toList[g]?) = some q := e
    simp only
    unfold yielded
    cases hx : all.toList[g]? with
    | none => rw [hx] at e; cases e
    | some x =>
      rw [hx] at e
      have hx' : all[g]? = some x := by simpa using hx
      have e : boolIs want (match x.dst with | some d => tm.get d | none => none) = some q := e
      cases hd : x.dst with
      | none => simp only [hd] at e; cases e
      | some d =>
        simp only [hd] at e
        cases hv : tm.get d with
        | none => rw [hv] at e; cases e
        | some v =>
          rw [hv] at e
          obtain ⟨v', h1, h2⟩ := hT g want x d v hg hx hd hv
          simp only [hx', Option.bind_some, hd, h1]
          cases h2 with
          | bool bb => have e : some (bb == want) = some q := e; injection e
          | _ => have e : some false = some q := e; injection e

theorem wanted_sound {m : M} {tm : Tr Value} {a : Act} {all : Array Oper} {o : Oper} {q : Bool} (hT : TR m tm a.tmps) (e : Am.wanted all tm o.guard = some q) : Region.wanted o (yielded all a.tmps) = q :=
  wanted_gen (fun _ _ _ d v _ _ _ hv => hT d v hv) e

theorem StR.put {Γ : Ctx} {m m' : M} {hD hD' : Nat → Option AObj} {K : Kt} {nt : Nat} {s : S} {a : Act} {cab : Option (List PanicEntry)} {w w' : World} (st : StR T Γ m hD K nt s a cab w) (hm : MLe m m') {h' : H}
    (I : Inv T Γ m' hD' h' w') {o : Oper} (hd : dstIn nt o.dst) {v v' : Value} (hv : VR m' v v') : StR T Γ m' hD' K nt ⟨putT s.tm v o.dst, s.df, h', s.ab⟩ (a.put o.dst v') cab w' where
  inv := I
  tm := (st.tm.mono hm).put (by rw [st.nt]; exact hd) hv
  nt := by rw [put_size]; exact st.nt
  df := by rw [put_defers]; exact st.df.mono hm
  ab := st.ab.mono hm
  kok := st.kok
theorem StR.mono {Γ : Ctx} {m m' : M} {hD hD' : Nat → Option AObj} {K : Kt} {nt : Nat} {s : S} {a : Act} {cab : Option (List PanicEntry)} {w w' : World} (st : StR T Γ m hD K nt s a cab w) (hm : MLe m m') {h' : H}
    (I : Inv T Γ m' hD' h' w') : StR T Γ m' hD' K nt ⟨s.tm, s.df, h', s.ab⟩ a cab w' where
  inv := I
  tm := st.tm.mono hm
  nt := st.nt
  df := st.df.mono hm
  ab := st.ab.mono hm
  kok := st.kok
theorem opRel_of {m : M} {tm : Tr Value} {a : Act} (h : TR m tm a.tmps) {l : List Operand} (hc : ∀ x ∈ l, constOK x = true) : OpRel tm a.eval l m := fun x hx _ hu => eval_of_TR h hu (hc x hx)

theorem run_callOp {ρ : Operand → Value} {o : Oper} {fo : Operand} {as : Array Operand} {ts : Array TypeId} (h : o.op = .call ⟨.value fo, as, ts⟩) (w : World) : (Go.execOp ρ o).run P w = (callSem (ρ fo) (as.toList.map ρ)).run P w := by
  have e : as.map ρ = ⟨as.toList.map ρ⟩ := by apply Array.ext'; simp
  simp only [Go.execOp, h, resolve, e, callSem]
theorem After.plain_ret {M0 : Machine} {cab : Option (List PanicEntry)} {w : World} {c : Frame} {cs : List Frame} {v : Value} (h : After P M0 cab w (.plain (c :: cs)) (.ret v)) : Steps P M0 (lone (c.finish v) cs w) := h
theorem After.plain_pan {M0 : Machine} {cab : Option (List PanicEntry)} {w : World} {c : Frame} {cs : List Frame} {ch : List PanicEntry} (h : After P M0 cab w (.plain (c :: cs)) (.pan ch)) : Steps P M0 (lone (c.raise ch) cs w) := h

/-- An operation of a region that does not draw. -/
theorem opStep_sound (tok : TabOK T P) {ev : Task → Ans} (hev : EvS T P ev) {fr : Fr} {nt : Nat} {all : Array Oper} {i : Nat} {o : Oper} (ho : all[i]? = some o) (hok : opOK nt o = true) {k : S → Ans} {s : S} {r : Ans}
    (e : opStep T ev fr all o k s = r) (hr : r ≠ .fail) : (∃ s1, k s1 = r ∧ OneS T P fr nt all i s s1) ∨ (∃ ch s1, r = .code (.panic ch) s1 ∧ OneP T P fr nt all i s ch s1) := by
  obtain ⟨hdst, hconst⟩ := opOK_dst hok
  obtain ⟨tm, df, h, ab⟩ := s
  have e : onO .fail (fun b => onB (k ⟨putT tm undef o.dst, df, h, ab⟩) (opRes ev fr.round o.dst k tm df h ab (Am.execOp T tm o.type h o.op)) b) (Am.wanted all tm o.guard) = r := e
  cases hw : Am.wanted all tm o.guard with
  | none => rw [hw] at e; exact absurd e.symm hr
  | some q =>
    rw [hw] at e
    cases q with
    | false =>
      have e : k ⟨putT tm undef o.dst, df, h, ab⟩ = r := e
      refine .inl ⟨_, e, .refl _, fun Γ m hD K b rest kk a cab w F st g1 g2 g3 => ?_⟩
      have hwc := wanted_sound (o := o) st.tm hw
      refine ⟨m, hD, a.put o.dst undef, cab, w, .refl _, st.put (.refl _) st.inv hdst (.undef m), .one ?_⟩
      have := stepR_op_skip (P := P) (b := b) (a := a) (k := kk) (cs := K.cs cab) (w := w) (ops := all) (i := i) (rest := rest) (by rw [ho]; simpa using hwc)
      rw [ho] at this
      exact this
    | true =>
      have e : opRes ev fr.round o.dst k tm df h ab (Am.execOp T tm o.type h o.op) = r := e
      cases hx : Am.execOp T tm o.type h o.op with
      | of r0 =>
        rw [hx] at e
        cases r0 with
        | fail => exact absurd e.symm hr
        | val v h1 =>
          have e : k ⟨putT tm v o.dst, df, h1, ab⟩ = r := e
          refine .inl ⟨_, e, (execOp_val (P := P) tok (ρ := fun _ => undef) hx).1, fun Γ m hD K b rest kk a cab w F st g1 g2 g3 => ?_⟩
          obtain ⟨_, hv⟩ := execOp_val (P := P) tok (ρ := a.eval) hx
          obtain ⟨v', m', hD', w', k1, k2, k3, k4⟩ := hv Γ m hD w F st.inv (opRel_of st.tm hconst)
          exact ⟨m', hD', a.put o.dst v', cab, w', k2, st.put k2 k4 hdst k3, .one (step_val ho (wanted_sound (o := o) st.tm hw) (not_defer hx (by simp)) k1)⟩
      | pan v =>
        rw [hx] at e
        have e : Ans.code (.panic [{ v, recovered := false }]) ⟨tm, df, h, ab⟩ = r := e
        obtain ⟨x, t, u, ho2, hxv, rfl⟩ := execOp_pan hx
        refine .inr ⟨_, _, e.symm, .refl _, fun Γ m hD K b rest kk a cab w F st g1 g2 g3 => ?_⟩
        have hv := opRel_of st.tm hconst x (by rw [ho2]; simp [opnds]) _ hxv
        generalize hq : a.eval x = q at hv
        cases hv with
        | @iface _ _ u' hu =>
          refine ⟨m, hD, a, cab, w, .refl _, st, _, _, .cons (.iface t hu) .nil, .one (step_panic ho (wanted_sound (o := o) st.tm hw) (fun c hc => by rw [ho2] at hc; cases hc) ?_)⟩
          simp [Go.execOp, ho2, Instr.panic, hq]
      | call f args =>
        rw [hx] at e
        have e : opCall o.dst k tm df ab (ev (.call f args h none)) = r := e
        obtain ⟨fo, as, ts, ho2, hf, ha⟩ := execOp_call hx
        have hnd : ∀ c, o.op ≠ .defer c := fun c hc => by rw [ho2] at hc; cases hc
        have hcall := hev.call f args h none
        cases hans : ev (.call f args h none) with
        | fail => rw [hans] at e; exact absurd e.symm hr
        | code x y => rw [hans] at e; exact absurd e.symm hr
        | ret v h1 ab1 =>
          rw [hans] at e hcall
          have e : k ⟨putT tm v o.dst, df, h1, ab⟩ = r := e
          obtain ⟨hle, hc⟩ := hcall h1 ab1 rfl
          refine .inl ⟨_, e, hle, fun Γ m hD K b rest kk a cab w F st g1 g2 g3 => ?_⟩
          have hrel := opRel_of st.tm hconst
          rw [ho2] at hrel
          obtain ⟨nx, fr0, q1, q2, m', hD', cab', w', cr, q3, q4, q5, q6, q7, q8⟩ := hc Γ m hD (.plain (b.atR a (.inRegion all (i :: rest) :: kk) :: K.cs cab)) (a.eval fo) (as.toList.map a.eval) none w (.inl ⟨_, _, rfl⟩) F st.inv
            (hrel fo (by simp [opnds, callOpnds]) f hf) (opvs_rel ha fun y hy => hrel y (by simp only [opnds, callOpnds, List.mem_cons]; exact .inr hy)) .none rfl
          cases q7 with
          | ret hv =>
            refine ⟨m', hD', a.put o.dst _, cab, w', q3, st.put q3 q4 hdst hv, .head (step_start ho (wanted_sound (o := o) st.tm hw) hnd (by rw [run_callOp ho2]; exact q1) q2) ?_⟩
            rw [← finish_at ho]
            exact q8.plain_ret
        | pan ch h1 ab1 =>
          rw [hans] at e hcall
          have e : Ans.code (.panic ch) ⟨tm, df, h1, ab⟩ = r := e
          obtain ⟨hle, hc⟩ := hcall h1 ab1 rfl
          refine .inr ⟨_, _, e.symm, hle, fun Γ m hD K b rest kk a cab w F st g1 g2 g3 => ?_⟩
          have hrel := opRel_of st.tm hconst
          rw [ho2] at hrel
          obtain ⟨nx, fr0, q1, q2, m', hD', cab', w', cr, q3, q4, q5, q6, q7, q8⟩ := hc Γ m hD (.plain (b.atR a (.inRegion all (i :: rest) :: kk) :: K.cs cab)) (a.eval fo) (as.toList.map a.eval) none w (.inl ⟨_, _, rfl⟩) F st.inv
            (hrel fo (by simp [opnds, callOpnds]) f hf) (opvs_rel ha fun y hy => hrel y (by simp only [opnds, callOpnds, List.mem_cons]; exact .inr hy)) .none rfl
          cases q7 with
          | pan hch =>
            refine ⟨m', hD', a, cab, w', q3, st.mono q3 q4, .inRegion all (i :: rest) :: kk, _, hch, .head (step_start ho (wanted_sound (o := o) st.tm hw) hnd (by rw [run_callOp ho2]; exact q1) q2) ?_⟩
            rw [← Frame.raise_atR]
            exact q8.plain_pan
      | dfr f args =>
        rw [hx] at e
        have e : opDefer fr.round o.dst k tm df h ab args f = r := e
        obtain ⟨fo, as, ts, ho2, hf, ha⟩ := execOp_dfr hx
        have hform : ∃ g first cap, f = .func (.func g) first cap := by
          cases f with
          | func fn first cap =>
            cases fn with
            | func g => exact ⟨g, first, cap, rfl⟩
            | _ => exact absurd e.symm hr
          | _ => exact absurd e.symm hr
        obtain ⟨g, first, cap, rfl⟩ := hform
        · have e : (match fr.round with
            | none => k ⟨putT tm undef o.dst, { target := .fn (.func g) cap, args := ⟨first.toList ++ args⟩ } :: df, h, ab⟩
            | some _ => .fail) = r := e
          split at e
          · rename_i hround
            refine .inl ⟨_, e, .refl _, fun Γ m hD K b rest kk a cab w F st g1 g2 g3 => ?_⟩
            rw [hround] at g3
            have hbn : b.roundOf = none := by cases hb : b.roundOf <;> rw [hb] at g3 <;> first | rfl | cases g3
            have hrel := opRel_of st.tm hconst
            rw [ho2] at hrel
            have hvf := hrel fo (by simp [opnds, callOpnds]) _ hf
            have hva := opvs_rel ha fun y hy => hrel y (by simp only [opnds, callOpnds, List.mem_cons]; exact .inr hy)
            obtain ⟨fl⟩ := first
            obtain ⟨cl⟩ := cap
            generalize hq : a.eval fo = q at hvf
            cases hvf with
            | @func _ _ l' _ c' h1 h2 =>
              refine ⟨m, hD, { a with defers := ⟨.fn (.func g) ⟨c'⟩, ⟨l' ++ as.toList.map a.eval⟩⟩ :: a.defers }.put o.dst undef, cab, w, .refl _, ?_, .one (step_defer ho (wanted_sound (o := o) st.tm hw) hbn ?_)⟩
              · refine ⟨st.inv, TR.put (a := { a with defers := ⟨.fn (.func g) ⟨c'⟩, ⟨l' ++ as.toList.map a.eval⟩⟩ :: a.defers }) st.tm (by rw [show a.tmps.size = nt from st.nt]; exact hdst) (.undef m), by rw [put_size]; exact st.nt, by rw [put_defers]; exact .cons (.fn g h2 (h1.append hva)) st.df, st.ab, st.kok⟩
              · have e2 : as.map a.eval = ⟨as.toList.map a.eval⟩ := by apply Array.ext'; simp
                simp [Go.execOp, ho2, resolve, hq, Deferred.ofValue, e2]
          · exact absurd e.symm hr
      | recov =>
        rw [hx] at e
        have e : opRecover fr.round o.dst k tm df h ab = r := e
        obtain ⟨as, ts, ho2⟩ := execOp_recov hx
        have hnd : ∀ c, o.op ≠ .defer c := fun c hc => by rw [ho2] at hc; cases hc
        unfold opRecover at e
        split at e
        · rename_i hround
          have e : k ⟨putT tm (recoverFrom ab).1 o.dst, df, h, (recoverFrom ab).2⟩ = r := e
          refine .inl ⟨_, e, .refl _, fun Γ m hD K b rest kk a cab w F st g1 g2 g3 => ?_⟩
          rw [hround] at g3
          have hbn : b.roundOf = none := by cases hb : b.roundOf <;> rw [hb] at g3 <;> first | rfl | cases g3
          have hrun : (Go.execOp a.eval o).run P w = .ok .recover w := by simp [Go.execOp, ho2, resolve, invoke, builtin]
          have hkind : (b.atR a (.inRegion all (i :: rest) :: kk)).kind = K.kind := g1
          have hwc := wanted_sound (o := o) st.tm hw
          have stay : recoverFrom ab = (.nilIface, ab) → tryRecover (b.atR a (.inRegion all (i :: rest) :: kk)) (K.cs cab) = none → ∃ m' hD' a' cab' w', MLe m m' ∧ StR T Γ m' hD' K nt ⟨putT tm (recoverFrom ab).1 o.dst, df, h, (recoverFrom ab).2⟩ a' cab' w' ∧
              Steps P (lone (b.atR a (.inRegion all (i :: rest) :: kk)) (K.cs cab) w) (lone (b.atR a' (.inRegion all rest :: kk)) (K.cs cab') w') := fun h1 h2 => by
            rw [h1]
            exact ⟨m, hD, a.put o.dst .nilIface, cab, w, .refl _, st.put (.refl _) st.inv hdst .nilIface, .one (step_recover_none ho hwc hnd hbn hrun h2)⟩
          cases K with
          | plain cs =>
            have hab : ab = none := st.kok
            subst hab
            exact stay rfl (by unfold tryRecover; rw [hkind]; rfl)
          | under c rs =>
            have hpr := st.ab
            cases hpr with
            | none => exact stay rfl (by unfold tryRecover; rw [hkind]; rfl)
            | some hcr =>
              cases hcr with
              | nil => exact stay rfl (by unfold tryRecover; rw [hkind]; rfl)
              | @cons u u' rr l l' hu hl =>
                cases rr with
                | true => exact stay rfl (by unfold tryRecover; rw [hkind]; rfl)
                | false =>
                  refine ⟨m, hD, a.put o.dst u', some (⟨u', true, false⟩ :: l'), w, .refl _, ?_, .one (step_recover_some ho hwc hnd hbn hrun (cs' := (Kt.under c rs).cs (some (⟨u', true, false⟩ :: l'))) ?_)⟩
                  · have := st.put (.refl _) st.inv hdst hu
                    exact ⟨this.inv, this.tm, this.nt, this.df, .some (.cons hu hl), trivial⟩
                  · unfold tryRecover; rw [hkind]; rfl
        · exact absurd e.symm hr
end Go.Am
/- A region that does not draw its order. -/
namespace Go.Am
open Go
variable {T : Tab} {P : Program}

theorem runOps_nil (ev : Task → Ans) (fr : Fr) (all : Array Oper) (s : S) : runOps T ev fr all [] s = .code .normal s := rfl
theorem runOps_cons (ev : Task → Ans) (fr : Fr) (all : Array Oper) (o : Oper) (l : List Oper) (s : S) : runOps T ev fr all (o :: l) s = opStep T ev fr all o (runOps T ev fr all l) s := rfl
theorem runOps_sound (tok : TabOK T P) {ev : Task → Ans} (hev : EvS T P ev) {fr : Fr} {nt : Nat} {all : Array Oper} : ∀ (l : List Oper) (i : Nat) (s : S) (e : Ex) (s' : S), l = all.toList.drop i → (∀ o ∈ l, opOK nt o = true) →
    runOps T ev fr all l s = .code e s' → RunS T P fr nt s e s' (fun k => .inRegion all (List.range' i l.length) :: k)
  | [], i, s, e, s', _, _, he => by
    rw [runOps_nil] at he
    injection he with h1 h2; subst h1; subst h2
    exact RunS.refl _ (fun b k a cs w => .one stepR_region_end)
  | o :: l, i, s, e, s', hl, hok, he => by
    rw [runOps_cons] at he
    have hi : all[i]? = some o := by
      have : all.toList[i]? = some o := by
        have h0 : (all.toList.drop i)[0]? = some o := by rw [← hl]; rfl
        rw [List.getElem?_drop] at h0
        simpa using h0
      simpa using this
    have hl2 : l = all.toList.drop (i + 1) := by
      have := congrArg List.tail hl
      simpa [List.tail_drop] using this
    rcases opStep_sound tok hev hi (hok o (by simp)) he (by simp) with ⟨s1, h1, h2⟩ | ⟨ch, s1, h1, h2⟩
    · have ih := runOps_sound tok hev l (i + 1) s1 e s' hl2 (fun x hx => hok x (by simp [hx])) h1
      refine ⟨h2.1.trans ih.1, fun Γ m hD K b k a cab w F st g1 g2 g3 => ?_⟩
      obtain ⟨m1, hD1, a1, cab1, w1, k1, k2, k3⟩ := h2.2 Γ m hD K b (List.range' (i + 1) l.length) k a cab w (F.of_le ih.1) st g1 g2 g3
      obtain ⟨m2, hD2, a2, cab2, w2, j1, j2, j3⟩ := ih.2 Γ m1 hD1 K b k a1 cab1 w1 F k2 g1 g2 (g3.mono k1)
      exact ⟨m2, hD2, a2, cab2, w2, k1.trans j1, j2, .of_steps k3 j3⟩
    · injection h1 with h3 h4; subst h3; subst h4
      refine ⟨h2.1, fun Γ m hD K b k a cab w F st g1 g2 g3 => ?_⟩
      obtain ⟨m1, hD1, a1, cab1, w1, k1, k2, todo, ch', k3, k4⟩ := h2.2 Γ m hD K b (List.range' (i + 1) l.length) k a cab w F st g1 g2 g3
      exact ⟨m1, hD1, a1, cab1, w1, k1, k2, todo, ch', k3, k4⟩
theorem regionOK_ops {nt : Nat} {ops : Array Oper} {draw : Bool} (h : regionOK nt ops draw = true) : (∀ o ∈ ops.toList, opOK nt o = true) ∧ (draw = true → drawnAllOK ops.toList (befores ops.toList 0 .nil) ops.toList 0 = true) := by
  unfold regionOK at h
  rw [Bool.and_eq_true] at h
  refine ⟨List.all_eq_true.1 h.1, fun hd => ?_⟩
  have := h.2
  rw [hd] at this
  simpa using this
theorem region_seq (tok : TabOK T P) {ev : Task → Ans} (hev : EvS T P ev) {fr : Fr} {nt id : Nat} {ops : Array Oper} {s s' : S} {e : Ex} (hok : regionOK nt ops false = true) (he : runRegion T ev fr ops false s = .code e s') :
    CodeS T P fr nt (.region id ops false) s e s' := by
  have he : runOps T ev fr ops ops.toList s = .code e s' := he
  have h := runOps_sound tok hev ops.toList 0 s e s' (by simp) (regionOK_ops hok).1 he
  refine h.head fun b k a cs w => .one ?_
  have : List.range ops.size = List.range' 0 ops.toList.length := by rw [List.range_eq_range']; simp
  rw [← this]
  exact stepR_region
end Go.Am
