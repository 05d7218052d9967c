/- The evaluator: calls, rounds, what is deferred. -/
import Derived.Test.YtkdfgoimgcegfaaGreatDoorAmReg
set_option linter.unusedSectionVars false
set_option linter.unusedSimpArgs false
set_option linter.unusedVariables false
namespace Go.Am
open Go
variable {T : Tab} {P : Program}

theorem loop_sound (tok : TabOK T P) {ev : Task → Ans} (hev : EvS T P ev) {fr : Fr} {nt : Nat} {x : Code} {s : S} {e : Ex} {s' : S} (hok : codeOK nt x = true) (he : runCode T ev fr (.loop x) s = .code e s') :
    RunS T P fr nt s e s' (fun k => .inLoop x :: k) := by
  have he : loopK ev fr x (runCode T ev fr x s) = .code e s' := he
  have hstep : ∀ (b : Frame) k a cs w, Steps P (lone (b.atR a (.inLoop x :: k)) cs w) (lone (b.atR a (.code x :: .inLoop x :: k)) cs w) := fun b k a cs w => .one stepR_inLoop
  cases hx : runCode T ev fr x s with
  | code ex s1 =>
    rw [hx] at he
    have hX := runCode_sound tok hev x s ex s1 hok hx
    cases ex with
    | normal => exact (hX.seq (hev.loop fr x s1 e s' nt he hok)).head hstep
    | exit id => injection he with h1 h2; subst h1; subst h2; exact (hX.pass (fun k => .inLoop x :: k) (by simp) (fun id k => rfl)).head hstep
    | ret => injection he with h1 h2; subst h1; subst h2; exact (hX.pass (fun k => .inLoop x :: k) (by simp) (fun id k => rfl)).head hstep
    | panic ch => injection he with h1 h2; subst h1; subst h2; exact (hX.pass (fun k => .inLoop x :: k) (by simp) (fun id k => rfl)).head hstep
  | fail => rw [hx] at he; cases he
  | ret a b c => rw [hx] at he; cases he
  | pan a b c => rw [hx] at he; cases he

/-! ### Results -/
theorem results_cons (tm : Tr Value) (r : ResultVar) (l : List ResultVar) (h : H) : Am.results T tm (r :: l) h = resultOf T tm (Am.results T tm l) h r := rfl
def resSem (tmps : Array Value) : ResultVar → Sem Value
  | .tmp t => pure (tmps.getD t undef)
  | .cell a t => do loadVar t (← Go.asAddr (tmps.getD a undef))
theorem results_sound (tok : TabOK T P) {tm : Tr Value} : ∀ {l : List ResultVar} {h : H} {vs : List Value} {h' : H}, Am.results T tm l h = .ok vs h' → Le h h' ∧ ∀ Γ m hD w tmps, Fin Γ h' → Inv T Γ m hD h w → TR m tm tmps →
    ∃ vs', LR m vs vs' ∧ (l.mapM (resSem tmps)).run P w = .ok vs' w ∧ Inv T Γ m hD h' w
  | [], h, vs, h', e => by
    have e : Vals.ok [] h = .ok vs h' := e
    injection e with e1 e2; subst e1; subst e2
    exact ⟨.refl _, fun Γ m hD w tmps F I _ => ⟨[], .nil, by simp, I⟩⟩
  | r :: l, h, vs, h', e => by
    rw [results_cons] at e
    cases r with
    | tmp t =>
      have e : resThen (Am.results T tm l) (vres h (tm.get t)) = .ok vs h' := e
      cases ht : tm.get t with
      | none => rw [ht] at e; cases e
      | some v =>
        rw [ht] at e
        have e : addVal v (Am.results T tm l h) = .ok vs h' := e
        cases hl : Am.results T tm l h with
        | fail => rw [hl] at e; cases e
        | ok vs1 h1 =>
          rw [hl] at e
          injection e with e1 e2; subst e1; subst e2
          obtain ⟨l1, ih⟩ := results_sound tok hl
          refine ⟨l1, fun Γ m hD w tmps F I hT => ?_⟩
          obtain ⟨vs', k1, k2, k3⟩ := ih Γ m hD w tmps F I hT
          obtain ⟨v', q1, q2⟩ := hT t v ht
          refine ⟨v' :: vs', .cons q2 k1, ?_, k3⟩
          simp only [List.mapM_cons, Sem.run_bind, resSem, Sem.run_pure, Result.andThen_ok, k2, Array.getD_eq_getD_getElem?, q1, Option.getD_some]
    | cell a t =>
      have e : resThen (Am.results T tm l) (loadLocOf T h t (tm.get a)) = .ok vs h' := e
      cases ha : tm.get a with
      | none => rw [ha] at e; cases e
      | some av =>
        rw [ha] at e
        have e : resThen (Am.results T tm l) (loadLoc T h t av) = .ok vs h' := e
        cases hld : loadLoc T h t av with
        | fail => rw [hld] at e; cases e
        | val v h0 =>
          rw [hld] at e
          have e : addVal v (Am.results T tm l h0) = .ok vs h' := e
          cases hl : Am.results T tm l h0 with
          | fail => rw [hl] at e; cases e
          | ok vs1 h1 =>
            rw [hl] at e
            injection e with e1 e2; subst e1; subst e2
            obtain ⟨l1, ih⟩ := results_sound tok hl
            -- the load, as it stands
            have hform := loadLoc_val hld
            obtain ⟨b, off, c, e0, g, rfl, hg, hpart, rfl⟩ := hform
            refine ⟨(touch_le h b).trans l1, fun Γ m hD w tmps F I hT => ?_⟩
            have F0 := F.of_le l1
            have ht : Γ.tch b := (touch_noted h b).elim (fun x => (F0.hi b x).1) (F0.rd b)
            obtain ⟨vs', k1, k2, k3⟩ := ih Γ m hD w tmps F (I.touch b) hT
            obtain ⟨av', q1, q2⟩ := hT a _ ha
            cases q2 with
            | ptr hm =>
              obtain ⟨c', pre, post, e', R⟩ := I.row hm hg ht
              obtain ⟨v', j1, j2⟩ := loadVar_sound tok R hpart
              refine ⟨v' :: vs', .cons j1 k1, ?_, k3⟩
              simp only [List.mapM_cons, Sem.run_bind, resSem, Sem.run_pure, Result.andThen_ok, k2, Array.getD_eq_getD_getElem?, q1, Option.getD_some, Go.asAddr, j2]
def retV : List Value → Value
  | [v] => v
  | vs => .tuple ⟨vs⟩
theorem run_results {fn : Func} {tmps : Array Value} {w : World} {vs : List Value} (h : (fn.results.toList.mapM (resSem tmps)).run P w = .ok vs w) :
    (Go.results fn tmps).run P w = .ok (retV vs) w := by
  have key : Go.results fn tmps = (fn.results.mapM (resSem tmps) >>= fun vs => pure (if h : vs.size = 1 then vs[0] else .tuple vs)) := by
    unfold Go.results
    exact congrArg (fun f => (fn.results.mapM f >>= fun vs => pure (if h : vs.size = 1 then vs[0] else .tuple vs) : Sem Value)) (funext fun x => by cases x <;> rfl)
  have hm : (fn.results.mapM (resSem tmps)).run P w = .ok ⟨vs⟩ w := by
    rw [Array.mapM_eq_mapM_toList]
    simp only [Sem.run_map, h, Result.andThen_ok]
  rw [key]
  simp only [Sem.run_bind, hm, Result.andThen_ok, Sem.run_pure]
  clear h hm
  rcases vs with _ | ⟨v, _ | ⟨v2, r⟩⟩
  · rfl
  · rfl
  · simp [retV]
end Go.Am
/- The evaluator: what is deferred, and how a frame is left. -/
namespace Go.Am
open Go
variable {T : Tab} {P : Program}

theorem modeOf_ne (o : Option (List PanicEntry)) : modeOf o ≠ .run := by cases o <;> simp [modeOf]
section
variable {b : Frame} {a : Act} {todo : List Item} {cs : List Frame} {w w' : World} {cm : Option (List PanicEntry)}
theorem step_take {ds : List Deferred} {blk : Nat} {calls : List Deferred} {args : Array Value} (hd : a.defers = { target := .collected blk, args } :: ds) (hr : (Instr.takeDeferred blk).run P w = .ok calls w') :
    step P (lone { b.atR a todo with mode := modeOf cm } cs w) = .next (lone { b.atR { a with defers := calls ++ ds } todo with mode := modeOf cm } cs w') := by
  refine step_lone_go ?_
  cases cm <;> simp [stepG, unwind, modeOf, Frame.atR, hd, Sem.runT_eq, hr]
theorem step_callDeferred {ds : List Deferred} {g : FuncId} {cap : Array Value} {args : Array Value} {nx : Next} {fr0 : Frame} (hd : a.defers = { target := .fn (.func g) cap, args } :: ds)
    (hr : (invoke (.fn (.func g) cap) args).run P w = .ok nx w') (hs : startFrame P .deferred nx = some fr0) :
    step P (lone { b.atR a todo with mode := modeOf cm } cs w) = .next (lone fr0 ({ b.atR { a with defers := ds } todo with mode := modeOf cm } :: cs) w') := by
  refine step_lone_go ?_
  cases nx <;> first
    | (cases hs; done)
    | (injection hs with hs; subst hs; cases cm <;> simp [stepG, unwind, callDeferred, modeOf, Frame.atR, hd, Sem.runT_eq, hr])
end
theorem run_takeDeferred {w : World} {l : Nat} {ds : List Deferred} (hw : w.heap[l]? = some (.deferred (some ds))) :
    (Instr.takeDeferred l).run P w = .ok ds { w with heap := w.heap.setIfInBounds l (.deferred none) } := by
  simp [Instr.takeDeferred, run_getObj (P := P) hw rfl, run_setObj (P := P) hw rfl]
theorem DR.append {m : M} : ∀ {l l' r r' : List Deferred}, DR m l l' → DR m r r' → DR m (l ++ r) (l' ++ r')
  | _, _, _, _, .nil, hr => hr
  | _, _, _, _, .cons h hl, hr => .cons h (hl.append hr)
theorem PR.settled {m : M} {x y : Option (List PanicEntry)} (h : PR m x y) : PR m (settled x) (settled y) := by
  cases h with
  | none => exact .none
  | some h =>
    cases h with
    | nil => exact .some .nil
    | @cons v v' r l l' hv hl =>
      cases r with
      | true => exact .none
      | false => exact .some (.cons hv hl)
theorem PR.getD {m : M} {x y : Option (List PanicEntry)} (h : PR m x y) : CR m (x.getD []) (y.getD []) := by
  cases h with
  | none => exact .nil
  | some h => exact h

theorem unwind_sound (tok : TabOK T P) {ev : Task → Ans} (hev : EvS T P ev) (fn : Func) (s : S) (mode : Option (List PanicEntry)) : UnwS T P fn s mode (unwindK T ev fn mode s) := by
  obtain ⟨tm, df, h, ab⟩ := s
  intro h' ab' hfin
  cases df with
  | nil =>
    have hr : unwindK T ev fn mode ⟨tm, [], h, ab⟩ = leaveK T fn tm h ab mode := rfl
    rw [hr] at hfin ⊢
    cases mode with
    | some chain =>
      have hr2 : leaveK T fn tm h ab (some chain) = .pan chain h ab := rfl
      rw [hr2] at hfin ⊢
      injection hfin with hfin; injection hfin with e1 e2; subst e1; subst e2
      refine ⟨.refl _, fun Γ m hD K b todo a cab cmode w hfn hk hb F st hp => ?_⟩
      cases hp with
      | @some _ c' hc =>
        have hdef : a.defers = [] := by
          have := st.df
          generalize hq : a.defers = q at this
          cases this; rfl
        exact ⟨m, hD, cab, w, .pan c', _, .refl _, st.inv, st.ab, st.kok, .pan hc, .refl _ _, rfl, rfl, hdef, hk, fn, hfn⟩
    | none =>
      have hr2 : leaveK T fn tm h ab none = retOf ab (Am.results T tm fn.results.toList h) := rfl
      rw [hr2] at hfin ⊢
      cases hres : Am.results T tm fn.results.toList h with
      | fail => rw [hres] at hfin; cases hfin
      | ok vs h1 =>
        have hret : retOf ab (.ok vs h1) = .ret (retV vs) h1 ab := by
          rcases vs with _ | ⟨v, _ | ⟨v2, r⟩⟩ <;> rfl
        rw [hres, hret] at hfin
        rw [hret]
        injection hfin with hfin; injection hfin with e1 e2; subst e1; subst e2
        obtain ⟨hle, hx⟩ := results_sound (P := P) tok hres
        refine ⟨hle, fun Γ m hD K b todo a cab cmode w hfn hk hb F st hp => ?_⟩
        cases hp
        obtain ⟨vs', k1, k2, k3⟩ := hx Γ m hD w a.tmps F st.inv st.tm
        have hdef : a.defers = [] := by
          have := st.df
          generalize hq : a.defers = q at this
          cases this; rfl
        have hv : VR m (retV vs) (retV vs') := by
          cases k1 with
          | nil => exact .tuple .nil
          | cons hv hl =>
            cases hl with
            | nil => exact hv
            | cons hv2 hl2 => exact .tuple (.cons hv (.cons hv2 hl2))
        exact ⟨m, hD, cab, w, .ret (retV vs'), _, .refl _, k3, st.ab, st.kok, .ret hv, .refl _ _, rfl, rfl, hdef, hk, fn, hfn, run_results k2⟩
  | cons d ds =>
    obtain ⟨target, args⟩ := d
    have hr : unwindK T ev fn mode ⟨tm, ⟨target, args⟩ :: ds, h, ab⟩ = deferRun ev fn ds tm h ab mode args target := rfl
    rw [hr] at hfin ⊢
    cases target with
    | collected blk =>
      have hr2 : deferRun ev fn ds tm h ab mode args (.collected blk) = collectedK ev fn ds tm h ab mode blk (h.get blk) := rfl
      rw [hr2] at hfin ⊢
      cases hg : h.get blk with
      | none => rw [hg] at hfin; cases hfin
      | some o =>
        rw [hg] at hfin
        cases o with
        | deferred q =>
          cases q with
          | none => cases hfin
          | some l =>
            have hr3 : collectedK ev fn ds tm h ab mode blk (some (.deferred (some l))) = ev (.unwind fn ⟨tm, l ++ ds, h.put blk (.deferred none), ab⟩ mode) := rfl
            rw [hr3] at hfin ⊢
            obtain ⟨hle, hx⟩ := hev.unw fn ⟨tm, l ++ ds, h.put blk (.deferred none), ab⟩ mode h' ab' hfin
            refine ⟨(put_le _ _ _ hg).trans hle, fun Γ m hD K b todo a cab cmode w hfn hk hb F st hp => ?_⟩
            have F1 := F.of_le hle
            have hdr := st.df
            generalize hq : a.defers = q at hdr
            cases hdr with
            | @cons _ d' _ ds' hd1 hds =>
              cases hd1 with
              | @collected _ pl hm =>
                have hn := put_noted h blk (.deferred none)
                have ht : Γ.tch blk := hn.elim (fun x => (F1.hi _ x).1) (fun x => F1.rd _ x.1)
                obtain ⟨_, o', ho, hO⟩ := st.inv.get hm hg ht
                cases hO with
                | @deferred _ l' hl =>
                  have hO2 : OR T m pl (.deferred none) (.deferred none) := .deferred0
                  obtain ⟨s1, s2, s3, s4⟩ := setObj_same w ho (fun _ _ _ h => by cases h) hO2.calm
                  have I2 := st.inv.put hm hg F1 hO2 s1 s2 s3 s4
                  have st2 : StR T Γ m _ K a.tmps.size ⟨tm, l ++ ds, h.put blk (.deferred none), ab⟩ { a with defers := l' ++ ds' } cab _ := ⟨I2, st.tm, rfl, hl.append hds, st.ab, st.kok⟩
                  obtain ⟨m', hD', cab', w', cr, fr', k1, k2, k3, k4, k5, k6, k7⟩ := hx Γ m _ K b todo { a with defers := l' ++ ds' } cab cmode _ hfn hk hb F st2 hp
                  exact ⟨m', hD', cab', w', cr, fr', k1, k2, k3, k4, k5, .head (step_take hq (run_takeDeferred ho)) k6, k7⟩
        | _ => cases hfin
    | fn f cap =>
      have hr2 : deferRun ev fn ds tm h ab mode args (.fn f cap) = deferDone ev fn ds tm ab (ev (.call (.func f #[] cap) args.toList h mode)) := rfl
      rw [hr2] at hfin ⊢
      have hcall := hev.call (.func f #[] cap) args.toList h mode
      generalize hans : ev (.call (.func f #[] cap) args.toList h mode) = ans at hfin hcall
      -- a call that ends in either way
      have go : ∀ h1 m1 nm, ans.fin = some (h1, m1) → deferDone ev fn ds tm ab ans = ev (.unwind fn ⟨tm, ds, h1, ab⟩ nm) →
          (∀ m cab' cr (c : Frame) rest w M0, RR m ans cr → PR m m1 cab' → After P M0 cab' w (.under c rest) cr → ∃ cm', PR m nm cm' ∧ Steps P M0 (lone { c with mode := modeOf cm' } rest w)) →
          Le h h' ∧ ∀ Γ m hD K (b : Frame) todo a cab cmode w, P.funcs[b.fn]? = some fn → b.kind = K.kind → b.roundOf = none → Fin Γ h' → StR T Γ m hD K a.tmps.size ⟨tm, ⟨.fn f cap, args⟩ :: ds, h, ab⟩ a cab w → PR m mode cmode →
          ∃ m' hD' cab' w' cr fr', MLe m m' ∧ Inv T Γ m' hD' h' w' ∧ PR m' ab' cab' ∧ K.ok ab' ∧ RR m' (deferDone ev fn ds tm ab ans) cr ∧
            Steps P (lone { b.atR a todo with mode := modeOf cmode } (K.cs cab) w) (lone fr' (K.cs cab') w') ∧ Leav P K.kind b.fn fr' w' cr := by
        intro h1 m1 nm hf hd hafter
        rw [hd] at hfin
        obtain ⟨hle1, hc⟩ := hcall h1 m1 hf
        obtain ⟨hle2, hx⟩ := hev.unw fn ⟨tm, ds, h1, ab⟩ nm h' ab' hfin
        refine ⟨hle1.trans hle2, fun Γ m hD K b todo a cab cmode w hfn hk hb F st hp => ?_⟩
        have hdr := st.df
        generalize hq : a.defers = q at hdr
        cases hdr with
        | @cons _ d' _ ds' hd1 hds =>
          cases hd1 with
          | @fn g c c' l l' hcap hargs =>
            have F1 := F.of_le hle2
            obtain ⟨nx, fr0, p1, p2, m2, hD2, cab2, w2, cr2, p3, p4, p5, p6, p7, p8⟩ := hc Γ m hD (.under (b.atR { a with defers := ds' } todo) (K.cs cab)) (.func (.func g) #[] ⟨c'⟩) l' cmode w (.inr ⟨⟨_, _, rfl⟩, g, _, _, rfl⟩) F1 st.inv
              (.func g .nil hcap) hargs hp trivial
            obtain ⟨cm', z1, z2⟩ := hafter m2 cab2 cr2 _ _ w2 _ p7 p5 p8
            have hinv : (invoke (.fn (.func g) ⟨c'⟩) ⟨l'⟩).run P w = .ok nx w := by
              have : (callSem (.func (.func g) #[] ⟨c'⟩) l').run P w = (invoke (.fn (.func g) ⟨c'⟩) ⟨l'⟩).run P w := by
                simp [callSem, Deferred.ofValue]
              rw [← this]; exact p1
            have st2 : StR T Γ m2 hD2 K a.tmps.size ⟨tm, ds, h1, ab⟩ { a with defers := ds' } cab w2 := ⟨p4, st.tm.mono p3, rfl, hds.mono p3, st.ab.mono p3, st.kok⟩
            obtain ⟨m', hD', cab', w', cr, fr', k1, k2, k3, k4, k5, k6, k7⟩ := hx Γ m2 hD2 K b todo { a with defers := ds' } cab cm' w2 hfn hk hb F st2 z1
            refine ⟨m', hD', cab', w', cr, fr', p3.trans k1, k2, k3, k4, by rw [hd]; exact k5, .head (step_callDeferred hq hinv p2) (z2.trans k6), k7⟩
      cases ans with
      | fail => cases hfin
      | code x y => cases hfin
      | ret v h1 m1 =>
        exact go h1 m1 (settled m1) rfl rfl (fun m cab' cr c rest w M0 hrr hpr haf => by
          cases hrr with
          | ret hv => exact ⟨settled cab', hpr.settled, haf⟩)
      | pan ch h1 m1 =>
        exact go h1 m1 (some (ch ++ m1.getD [])) rfl rfl (fun m cab' cr c rest w M0 hrr hpr haf => by
          cases hrr with
          | @pan _ c' _ _ hc => exact ⟨some (c' ++ cab'.getD []), .some (hc.append hpr.getD), haf⟩)
    | _ => cases hfin
end Go.Am
/- The evaluator: calls of functions and of rounds; the whole. -/
namespace Go.Am
open Go
variable {T : Tab} {P : Program}

/-! ### More slots do no harm -/
theorem ble_mono {a n n' : Nat} (h : Nat.ble a n = true) (hn : n ≤ n') : Nat.ble a n' = true := Nat.ble_eq_true_of_le (Nat.le_trans (nble_true h) hn)
theorem dstOK_mono {nt nt' : Nat} (hn : nt ≤ nt') {o : Oper} (h : dstOK nt o = true) : dstOK nt' o = true := by
  unfold dstOK at *
  cases hd : o.dst with
  | none => rfl
  | some d => rw [hd] at h; exact ble_mono h hn
theorem opOK_mono {nt nt' : Nat} (hn : nt ≤ nt') {o : Oper} (h : opOK nt o = true) : opOK nt' o = true := by
  unfold opOK at *
  rw [Bool.and_eq_true] at *
  exact ⟨dstOK_mono hn h.1, h.2⟩
theorem regionOK_mono {nt nt' : Nat} (hn : nt ≤ nt') {ops : Array Oper} {d : Bool} (h : regionOK nt ops d = true) : regionOK nt' ops d = true := by
  unfold regionOK at *
  rw [Bool.and_eq_true] at *
  refine ⟨?_, h.2⟩
  have h1 := h.1
  rw [List.all_eq_true] at *
  exact fun o ho => opOK_mono hn (h1 o ho)
theorem paramsOK_mono {nt nt' : Nat} (hn : nt ≤ nt') {ps : List Tmp} (h : paramsOK nt ps = true) : paramsOK nt' ps = true := by
  unfold paramsOK at *
  rw [List.all_eq_true] at *
  exact fun o ho => ble_mono (h o ho) hn
theorem codeOK_mono {nt nt' : Nat} (hn : nt ≤ nt') : ∀ {c : Code}, codeOK nt c = true → codeOK nt' c = true := by
  intro c
  induction c with
  | region id ops d => exact regionOK_mono hn
  | seq a b iha ihb => intro h; have h : (codeOK nt a && codeOK nt b) = true := h; rw [Bool.and_eq_true] at h; show (codeOK nt' a && codeOK nt' b) = true; rw [Bool.and_eq_true]; exact ⟨iha h.1, ihb h.2⟩
  | cond x a b iha ihb =>
    intro h
    have h : (constOK x && (codeOK nt a && codeOK nt b)) = true := h
    rw [Bool.and_eq_true, Bool.and_eq_true] at h
    show (constOK x && (codeOK nt' a && codeOK nt' b)) = true
    rw [Bool.and_eq_true, Bool.and_eq_true]; exact ⟨h.1, iha h.2.1, ihb h.2.2⟩
  | block id b ih => exact ih
  | loop b ih => exact ih
  | rangeFunc f ps a b iha ihb =>
    intro h
    have h : (constOK f && (paramsOK nt ps.toList && (codeOK nt a && codeOK nt b))) = true := h
    rw [Bool.and_eq_true, Bool.and_eq_true, Bool.and_eq_true] at h
    show (constOK f && (paramsOK nt' ps.toList && (codeOK nt' a && codeOK nt' b))) = true
    rw [Bool.and_eq_true, Bool.and_eq_true, Bool.and_eq_true]; exact ⟨h.1, paramsOK_mono hn h.2.1, iha h.2.2.1, ihb h.2.2.2⟩
  | scope b ih => exact ih
  | _ => intro _; rfl

/-! ### Slots at the start -/
theorem initT_cons (v : Value) (l : List Value) (k : Nat) (t : Tr Value) : initT (v :: l) k t = initT l (k + 1) (t.set k v) := rfl
theorem initT_get : ∀ (l : List Value) (k : Nat) (t : Tr Value) (j : Nat) (v : Value), (initT l k t).get j = some v → (k ≤ j ∧ l[j - k]? = some v) ∨ t.get j = some v
  | [], _, _, _, _, h => .inr h
  | x :: l, k, t, j, v, h => by
    rw [initT_cons] at h
    rcases initT_get l (k + 1) _ j v h with ⟨h1, h2⟩ | h1
    · refine .inl ⟨by omega, ?_⟩
      rw [show j - k = (j - (k + 1)) + 1 from by omega]; simpa using h2
    · by_cases e : j = k
      · subst e
        have := Tr.get_set_eq t h1
        subst this
        exact .inl ⟨Nat.le_refl _, by simp⟩
      · rw [Tr.get_set_ne t x e] at h1; exact .inr h1
theorem initT_sound {m : M} {l l' : List Value} (h : LR m l l') (n : Nat) : TR m (initT l 0 .nil) ((⟨l'⟩ : Array Value) ++ Array.replicate n undef) := by
  intro t v e
  rcases initT_get l 0 .nil t v e with ⟨_, h2⟩ | h1
  · obtain ⟨v', q1, q2⟩ := h.get (by simpa using h2)
    refine ⟨v', ?_, q2⟩
    rw [Array.getElem?_append]
    have : t < l'.length := by
      rcases Nat.lt_or_ge t l'.length with q | q
      · exact q
      · rw [List.getElem?_eq_none q] at q1; cases q1
    rw [if_pos (by simpa using this)]
    simpa using q1
  · cases h1
theorem putAll_nil (vs : List Value) (t : Tr Value) : putAll [] vs t = match vs with | [] => some t | _ :: _ => none := rfl
theorem putAll_cons (d : Tmp) (ds : List Tmp) (vs : List Value) (t : Tr Value) : putAll (d :: ds) vs t = match vs with | [] => none | v :: vs => putAll ds vs (t.set d v) := rfl
theorem putAll_sound {m : M} : ∀ {ds : List Tmp} {vs vs' : List Value} {t t' : Tr Value} {tmps : Array Value}, LR m vs vs' → TR m t tmps → paramsOK tmps.size ds = true → putAll ds vs t = some t' →
    vs'.length = ds.length ∧ TR m t' ((ds.zip vs').foldl (fun tmps x => tmps.setIfInBounds x.1 x.2) tmps) ∧ ((ds.zip vs').foldl (fun tmps x => tmps.setIfInBounds x.1 x.2) tmps).size = tmps.size
  | [], vs, vs', t, t', tmps, hl, hT, hp, e => by
    rw [putAll_nil] at e
    cases hl with
    | nil => injection e with e; subst e; exact ⟨rfl, hT, rfl⟩
    | cons _ _ => cases e
  | d :: ds, vs, vs', t, t', tmps, hl, hT, hp, e => by
    rw [putAll_cons] at e
    cases hl with
    | nil => cases e
    | @cons v v' l l' hv hl =>
      have hp : (Nat.ble (Nat.succ d) tmps.size && paramsOK tmps.size ds) = true := hp
      rw [Bool.and_eq_true] at hp
      have hd : d < tmps.size := nble_true hp.1
      have hs : (tmps.setIfInBounds d v').size = tmps.size := by simp
      obtain ⟨k1, k2, k3⟩ := putAll_sound hl (hT.set hd hv) (by rw [hs]; exact hp.2) e
      refine ⟨by simp [k1], by simpa using k2, ?_⟩
      simp only [List.zip_cons_cons, List.foldl_cons]
      rw [k3, hs]

/-! ### A function's body -/
theorem enter_eq {g : FuncId} {fn : Func} {c : Code} (hf : P.funcs[g]? = some fn) (hc : fn.body = some c) (args : List Value) (kind : CallKind) :
    Frame.enter P g ⟨args⟩ kind = (Frame.enter P g ⟨args⟩ kind).atR ⟨(⟨args⟩ : Array Value) ++ Array.replicate (fn.ntmps - args.length) undef, []⟩ [.code c] := by
  simp [Frame.enter, Frame.atR, hf, hc]

theorem body_sound (tok : TabOK T P) {ev : Task → Ans} (hev : EvS T P ev) {g : FuncId} {fn : Func} {c : Code} {args : List Value} {h : H} {ab : Option (List PanicEntry)} (hT : T.func g = some fn) (hc : fn.body = some c) :
    ∀ h' ab', (bodyRun T ev g args h ab fn (some c)).fin = some (h', ab') → Le h h' ∧ ∀ Γ m hD (K : Kt) args' cab w, Fin Γ h' → Inv T Γ m hD h w → LR m args args' → PR m ab cab → K.ok ab →
      ∃ m' hD' cab' w' cr fr', MLe m m' ∧ Inv T Γ m' hD' h' w' ∧ PR m' ab' cab' ∧ K.ok ab' ∧ RR m' (bodyRun T ev g args h ab fn (some c)) cr ∧
        Steps P (lone (Frame.enter P g ⟨args'⟩ K.kind) (K.cs cab) w) (lone fr' (K.cs cab') w') ∧ Leav P K.kind g fr' w' cr := by
  obtain ⟨hf, hok⟩ := tok.func g fn hT
  have hcode : codeOK fn.ntmps c = true := by
    unfold funcOK at hok
    rw [hc] at hok
    have hok : (!(fn.name == "runtime.NumGoroutine") && codeOK fn.ntmps c) = true := hok
    rw [Bool.and_eq_true] at hok
    exact hok.2
  intro h' ab' hfin
  have hb : bodyRun T ev g args h ab fn (some c) = bodyDone ev fn (runCode T ev ⟨g, none⟩ c ⟨initT args 0 .nil, [], h, ab⟩) := rfl
  rw [hb] at hfin ⊢
  cases hx : runCode T ev ⟨g, none⟩ c ⟨initT args 0 .nil, [], h, ab⟩ with
  | fail => rw [hx] at hfin; cases hfin
  | ret v h1 ab1 => rw [hx] at hfin; cases hfin
  | pan v h1 ab1 => rw [hx] at hfin; cases hfin
  | code e s =>
    rw [hx] at hfin
    -- what leads to the unwinding
    have go : ∀ mode, bodyDone ev fn (.code e s) = ev (.unwind fn s mode) →
        (∀ (b : Frame) (a : Act) (m : M) (cs : List Frame) (w : World) M0, b.roundOf = none → Arr P M0 b [] cs m a w e → ∃ cmode todo, PR m mode cmode ∧ Steps P M0 (lone { b.atR a todo with mode := modeOf cmode } cs w)) →
        Le h h' ∧ ∀ Γ m hD (K : Kt) args' cab w, Fin Γ h' → Inv T Γ m hD h w → LR m args args' → PR m ab cab → K.ok ab →
          ∃ m' hD' cab' w' cr fr', MLe m m' ∧ Inv T Γ m' hD' h' w' ∧ PR m' ab' cab' ∧ K.ok ab' ∧ RR m' (bodyDone ev fn (.code e s)) cr ∧
            Steps P (lone (Frame.enter P g ⟨args'⟩ K.kind) (K.cs cab) w) (lone fr' (K.cs cab') w') ∧ Leav P K.kind g fr' w' cr := by
      intro mode hd harr
      rw [hd] at hfin
      obtain ⟨hle2, hu⟩ := hev.unw fn s mode h' ab' hfin
      have hle1 : Le h s.h := (runCode_sound (nt := fn.ntmps) tok hev c _ e s hcode hx).1
      refine ⟨hle1.trans hle2, fun Γ m hD K args' cab w F I hl hp hk => ?_⟩
      have hlen := hl.length
      generalize ha0 : (⟨(⟨args'⟩ : Array Value) ++ Array.replicate (fn.ntmps - args'.length) undef, []⟩ : Act) = a0
      have hsz : fn.ntmps ≤ a0.tmps.size := by rw [← ha0]; simp; omega
      have hS := runCode_sound (nt := a0.tmps.size) tok hev (fr := ⟨g, none⟩) c _ e s (codeOK_mono hsz hcode) hx
      have st : StR T Γ m hD K a0.tmps.size ⟨initT args 0 .nil, [], h, ab⟩ a0 cab w :=
        ⟨I, by rw [← ha0]; exact initT_sound hl _, rfl, by rw [← ha0]; exact .nil, hp, hk⟩
      generalize hfe : Frame.enter P g ⟨args'⟩ K.kind = b
      have hbe : b = b.atR a0 [.code c] := by rw [← hfe, ← ha0]; exact enter_eq hf hc args' K.kind
      have hbk : b.kind = K.kind := by rw [← hfe]; rfl
      have hbf : b.fn = g := by rw [← hfe]; rfl
      have hbr : b.roundOf = none := by rw [← hfe]; rfl
      obtain ⟨m1, hD1, a1, cab1, w1, q1, q2, q3⟩ := hS.2 Γ m hD K b [] a0 cab w (F.of_le hle2) st hbk hbf (by rw [hbr]; exact .none)
      obtain ⟨cmode, todo, r1, r2⟩ := harr b a1 m1 _ w1 _ hbr q3
      obtain ⟨m', hD', cab', w', cr, fr', k1, k2, k3, k4, k5, k6, k7⟩ := hu Γ m1 hD1 K b todo a1 cab1 cmode w1 (by rw [hbf]; exact hf) hbk hbr F ⟨q2.inv, q2.tm, rfl, q2.df, q2.ab, q2.kok⟩ r1
      refine ⟨m', hD', cab', w', cr, fr', q1.trans k1, k2, k3, k4, by rw [hd]; exact k5, ?_, by rw [← hbf]; exact k7⟩
      rw [hbe]
      exact r2.trans k6
    cases e with
    | normal =>
      exact go none rfl fun b a m cs w M0 hb harr => ⟨none, [], .none, Steps.trans harr (.one (stepR_end hb))⟩
    | ret =>
      exact go none rfl fun b a m cs w M0 hb harr => by
        obtain ⟨k1, h1⟩ := harr
        exact ⟨none, .code .ret :: k1, .none, h1.trans (.one (stepR_ret hb))⟩
    | panic chain =>
      exact go (some chain) rfl fun b a m cs w M0 hb harr => by
        obtain ⟨todo, chain', h1, h2⟩ := harr
        exact ⟨some chain', todo, .some h1, h2⟩
    | exit id => cases hfin

/-! ### How a frame is left -/
theorem CR.noExit {m : M} : ∀ {l l' : List PanicEntry}, CR m l l' → l'.dropWhile (!·.goexit) = []
  | _, _, .nil => rfl
  | _, _, .cons _ hl => by simpa using hl.noExit
theorem leave_sound {M0 : Machine} {cab : Option (List PanicEntry)} {w : World} {m : M} {ab : Option (List PanicEntry)} {K : Kt} {g : FuncId} {fr : Frame} {cr : CRes} (hK : (∃ c cs, K = .plain (c :: cs)) ∨ ∃ c r, K = .under c r) (hp : PR m ab cab)
    (hL : Leav P K.kind g fr w cr) (hs : Steps P M0 (lone fr (K.cs cab) w)) : After P M0 cab w K cr := by
  rcases hK with ⟨c, cs, rfl⟩ | ⟨c, rest, rfl⟩
  · cases cr with
    | ret v =>
      obtain ⟨_, h1, h2, h3, fn, h4, h5⟩ := hL
      exact hs.trans (.one (step_leave_returned ⟨h1, h2, h3, fn, by rw [‹fr.fn = g›]; exact h4, h5⟩))
    | pan ch =>
      obtain ⟨_, h1, h2, h3, fn, h4⟩ := hL
      exact hs.trans (.one (step_leave_panicked ⟨h1, h2, fn, by rw [‹fr.fn = g›]; exact h4⟩))
  · cases cr with
    | ret v =>
      obtain ⟨hg, h1, h2, h3, fn, h4, h5⟩ := hL
      have h3 : fr.kind = .deferred := h3
      refine hs.trans (.one (step_lone_go ?_))
      rw [← hg] at h4
      cases hp with
      | none => simp [stepG, unwind, doReturn, Kt.cs, modeOf, settled, h1, h2, h3, h4, h5]
      | some hc =>
        cases hc with
        | nil => simp [stepG, unwind, doReturn, Kt.cs, modeOf, settled, h1, h2, h3, h4, h5]
        | @cons u u' r l l' hu hl =>
          cases r with
          | true => simp [stepG, unwind, doReturn, Kt.cs, modeOf, settled, h1, h2, h3, h4, h5, hl.noExit]
          | false => simp [stepG, unwind, doReturn, Kt.cs, modeOf, settled, h1, h2, h3, h4, h5]
    | pan ch =>
      obtain ⟨hg, h1, h2, h3, fn, h4⟩ := hL
      refine hs.trans (.one (step_lone_go ?_))
      rw [← hg] at h4
      cases cab <;> simp [stepG, unwind, Frame.catches, Kt.cs, modeOf, Frame.raise, h1, h2, h4]

theorem run_callFunc {g : FuncId} {fn : Func} (hf : P.funcs[g]? = some fn) (hn : (fn.name == "runtime.NumGoroutine") = false) {c : Code} (hc : fn.body = some c) (args : Array Value) (w : World) : (callFunc g args).run P w = .ok (.enter g args) w := by
  simp [callFunc, hf, hc]
  simpa using hn

theorem callFn_sound (tok : TabOK T P) {ev : Task → Ans} (hev : EvS T P ev) {g : FuncId} {first cap : List Value} {args : List Value} {h : H} {ab : Option (List PanicEntry)} :
    CallS T P (.func (.func g) ⟨first⟩ ⟨cap⟩) args h ab (callFn T ev g (first ++ args ++ cap) h ab (T.func g)) := by
  intro h' ab' hfin
  cases hT : T.func g with
  | none => rw [hT] at hfin; cases hfin
  | some fn =>
    obtain ⟨hf, hok⟩ := tok.func g fn hT
    rw [hT] at hfin
    have hb : callFn T ev g (first ++ args ++ cap) h ab (some fn) = bodyRun T ev g (first ++ args ++ cap) h ab fn fn.body := rfl
    rw [hb] at hfin ⊢
    cases hc : fn.body with
    | none => rw [hc] at hfin; cases hfin
    | some c =>
      rw [hc] at hfin
      have hn : (fn.name == "runtime.NumGoroutine") = false := by
        unfold funcOK at hok
        rw [hc] at hok
        have hok : (!(fn.name == "runtime.NumGoroutine") && codeOK fn.ntmps c) = true := hok
        rw [Bool.and_eq_true] at hok
        simpa using hok.1
      obtain ⟨hle, hx⟩ := body_sound tok hev hT hc h' ab' hfin
      refine ⟨hle, fun Γ m hD K f' args' cab w hK F I hv hl hp hk => ?_⟩
      cases hv with
      | @func _ _ l' _ c' h1 h2 =>
        obtain ⟨m', hD', cab', w', cr, fr', k1, k2, k3, k4, k5, k6, k7⟩ := hx Γ m hD K (l' ++ args' ++ c') cab w F I ((h1.append hl).append h2) hp hk
        refine ⟨.enter g ⟨l' ++ args' ++ c'⟩, _, ?_, rfl, m', hD', cab', w', cr, k1, k2, k3, k4, k5, leave_sound ?_ k3 k7 k6⟩
        · simp [callSem, Deferred.ofValue, invoke, run_callFunc hf hn hc]
        · rcases hK with h | h
          · exact .inl h
          · exact .inr h.1
end Go.Am
