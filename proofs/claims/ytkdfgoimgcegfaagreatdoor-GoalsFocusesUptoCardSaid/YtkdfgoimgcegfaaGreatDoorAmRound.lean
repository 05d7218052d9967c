/- The evaluator: rounds of loops over functions; the whole. -/
import Derived.Test.YtkdfgoimgcegfaaGreatDoorAmEval
set_option linter.unusedSectionVars false
set_option linter.unusedSimpArgs false
set_option linter.unusedVariables false
namespace Go.Am
open Go
variable {T : Tab} {P : Program}

theorem stepR_beginRound {b : Frame} {a : Act} {k : List Item} {cs : List Frame} {w w' : World} {l : Nat} (hb : b.roundOf = some l) (h : (Instr.beginRound l).run P w = .ok () w') :
    step P (lone (b.atR a (.beginRound :: k)) cs w) = .next (lone (b.atR a k) cs w') :=
  step_lone_go (by simp [stepG, stepG.exec, stepG.apply, Frame.atR, hb, Sem.runT_eq, Sem.run_bind, h, GStep.bare_after, Frame.finish])
theorem run_beginRound {w : World} {l : Nat} {r : Loop} (hw : w.heap[l]? = some (.loop r)) (hs : r.state = .ready) :
    (Instr.beginRound l).run P w = .ok () { w with heap := w.heap.setIfInBounds l (.loop { r with state := .busy }) } := by
  have h1 := run_getObj (P := P) hw rfl
  simp [Instr.beginRound, Instr.getLoop, h1, run_setObj (P := P) hw rfl, hs]
theorem run_endRound {w : World} {l : Nat} {r : Loop} (hw : w.heap[l]? = some (.loop r)) (jump : Option Code) :
    (Instr.endRound l jump).run P w = .ok (.bool jump.isNone) { w with heap := w.heap.setIfInBounds l (.loop { r with state := if jump.isNone then .ready else .done, pending := jump }) } := by
  have h1 := run_getObj (P := P) hw rfl
  simp [Instr.endRound, Instr.getLoop, h1, run_setObj (P := P) hw rfl]
section leave
variable {b c : Frame} {a : Act} {cs : List Frame} {w w' : World} {l : Nat} {v : Value}
theorem stepR_endRound (hb : b.roundOf = some l) (hk : b.kind = .normal) (h : (Instr.endRound l none).run P w = .ok v w') :
    step P (lone (b.atR a []) (c :: cs) w) = .next (lone (c.finish v) cs w') :=
  step_lone_go (by simp [stepG, stepG.exec, Frame.atR, hb, hk, Sem.runT_eq, h, GStep.bare_after, doReturn])
theorem stepR_retRound {k : List Item} (hb : b.roundOf = some l) (hk : b.kind = .normal) (h : (Instr.endRound l (some .ret)).run P w = .ok v w') :
    step P (lone (b.atR a (.code .ret :: k)) (c :: cs) w) = .next (lone (c.finish v) cs w') :=
  step_lone_go (by simp [stepG, stepG.exec, Frame.atR, hb, hk, Sem.runT_eq, h, GStep.bare_after, doReturn])
theorem stepR_exitRound {k : List Item} {id : Nat} (hx : exitTo id k = none) (hb : b.roundOf = some l) (hk : b.kind = .normal) (h : (Instr.endRound l (some (.exit id))).run P w = .ok v w') :
    step P (lone (b.atR a (.code (.exit id) :: k)) (c :: cs) w) = .next (lone (c.finish v) cs w') :=
  step_lone_go (by simp [stepG, stepG.exec, Frame.atR, hb, hk, hx, Sem.runT_eq, h, GStep.bare_after, doReturn])
end leave

theorem run_yield {w : World} {l : Nat} {r : Loop} (hw : w.heap[l]? = some (.loop r)) {args : List Value} (hn : args.length = r.params.toList.length) :
    (callSem (.func (.yield l) #[] #[]) args).run P w = .ok (.round l r.fn ((r.params.toList.zip args).foldl (fun tmps x => tmps.setIfInBounds x.1 x.2) r.tmps) r.assign r.body) w := by
  have h1 := run_getObj (P := P) hw rfl
  have hn' : args.length = r.params.size := by simpa using hn
  have hz : (r.params.zip args.toArray).size = r.params.size := by simp [hn']
  have e : Array.foldl (fun tmps (x : Tmp × Value) => tmps.setIfInBounds x.1 x.2) r.tmps (r.params.zip args.toArray) 0 r.params.size = (r.params.toList.zip args).foldl (fun tmps x => tmps.setIfInBounds x.1 x.2) r.tmps := by
    rw [← hz, ← Array.foldl_toList, Array.toList_zip]
  simp [callSem, Deferred.ofValue, invoke, Instr.yield, Instr.getLoop, h1, hn', e]

/-- A round, up to its end. -/
theorem round_sound (tok : TabOK T P) {ev : Task → Ans} (hev : EvS T P ev) {l : Nat} {args : List Value} {h : H} {r q : ALoop} {tm : Tr Value} {fn : Func} {s1 s2 : S} {e2 : Ex} (hg : h.get l = some (.loop r)) (hpa : putAll r.params.toList args r.tmps = some tm)
    (hx1 : runCode T ev ⟨r.fn, some l⟩ r.assign ⟨tm, [], h.touch l, none⟩ = .code .normal s1) (hg1 : s1.h.get l = some (.loop q)) (hqs : q.state = .ready)
    (hx2 : runCode T ev ⟨r.fn, some l⟩ r.body { s1 with h := s1.h.put l (.loop { q with state := .busy }) } = .code e2 s2) (hA : codeOK fn.ntmps r.assign = true) (hB : codeOK fn.ntmps r.body = true) :
    Le h s2.h ∧ ∀ Γ m hD c cs f' args' w (first cap : Array Value), Fin Γ s2.h → Inv T Γ m hD h w → VR m (.func (.yield l) first cap) f' → LR m args args' →
      ∃ pl tmps', m l = some pl ∧ (callSem f' args').run P w = .ok (.round pl.blk r.fn tmps' r.assign r.body) w ∧
        ∃ m' hD', ∃ b : Frame, ∃ nt a' w', b.roundOf = some pl.blk ∧ b.kind = .normal ∧ b.fn = r.fn ∧ MLe m m' ∧ StR T Γ m' hD' (.plain (c :: cs)) nt s2 a' none w' ∧
          Arr P (lone (Frame.round pl.blk r.fn tmps' r.assign r.body .normal) (c :: cs) w) b [] (c :: cs) m' a' w' e2 := by
  have l1 := (runCode_sound tok hev (fr := ⟨r.fn, some l⟩) _ _ _ _ hA hx1).1
  have l2 := (runCode_sound tok hev (fr := ⟨r.fn, some l⟩) _ _ _ _ hB hx2).1
  have hput : Le s1.h (s1.h.put l (.loop { q with state := .busy })) := put_le _ _ _ hg1
  refine ⟨((touch_le h l).trans l1).trans (hput.trans l2), fun Γ m hD c cs f' args' w first cap F I hv hl => ?_⟩
  cases hv with
  | @yield _ pl hm =>
    have F2 : Fin Γ (s1.h.put l (.loop { q with state := .busy })) := F.of_le l2
    have F1 : Fin Γ s1.h := F2.of_le hput
    have ht : Γ.tch l := (touch_noted h l).elim (fun x => ((F1.of_le l1).hi _ x).1) (fun x => (F1.of_le l1).rd _ x)
    obtain ⟨_, o', ho, hO⟩ := I.get hm hg ht
    cases hO with
    | @loop _ r' hL =>
      obtain ⟨z1, z2, z3⟩ := putAll_sound hl hL.tmps hL.okP hpa
      have hy := run_yield (P := P) ho (args := args') (by rw [hL.params]; exact z1)
      rw [hL.params, hL.fn, hL.assign, hL.body] at hy
      generalize htm : (r.params.toList.zip args').foldl (fun tmps x => tmps.setIfInBounds x.1 x.2) r'.tmps = tmps' at *
      refine ⟨pl, tmps', hm, hy, ?_⟩
      have hnt : tmps'.size = r'.tmps.size := z3
      generalize hb : Frame.round pl.blk r.fn tmps' r.assign r.body .normal = b
      have hbe : b = b.atR ⟨tmps', []⟩ [.code r.assign, .beginRound, .code r.body] := by rw [← hb]; rfl
      have hbr : b.roundOf = some pl.blk := by rw [← hb]; rfl
      have hbk : b.kind = .normal := by rw [← hb]; rfl
      have hbf : b.fn = r.fn := by rw [← hb]; rfl
      have st : StR T Γ m hD (.plain (c :: cs)) r'.tmps.size ⟨tm, [], h.touch l, none⟩ ⟨tmps', []⟩ none w := ⟨I.touch l, z2, z3, .nil, .none, rfl⟩
      have hSA := runCode_sound (nt := r'.tmps.size) tok hev (fr := ⟨r.fn, some l⟩) _ _ _ _ hL.okA hx1
      obtain ⟨m1, hD1, a1, cab1, w1, q1, q2, q3⟩ := hSA.2 Γ m hD (.plain (c :: cs)) b [.beginRound, .code r.body] ⟨tmps', []⟩ none w F1 st hbk hbf (by rw [hbr]; exact .some hm)
      have hm1 := q1.to _ _ hm
      obtain ⟨_, o1, ho1, hO1⟩ := q2.inv.get hm1 hg1 ht
      cases hO1 with
      | @loop _ q' hQ =>
        have hO2 : OR T m1 pl (.loop { q with state := .busy }) (.loop { q' with state := .busy }) := .loop { hQ with state := rfl }
        obtain ⟨s1', s2', s3', s4'⟩ := setObj_same w1 ho1 (fun _ _ _ h => by cases h) hO2.calm
        have I2 := q2.inv.put hm1 hg1 F2 hO2 s1' s2' s3' s4'
        have hSB := runCode_sound (nt := r'.tmps.size) tok hev (fr := ⟨r.fn, some l⟩) _ _ _ _ hL.okB hx2
        have st2 : StR T Γ m1 _ (.plain (c :: cs)) r'.tmps.size { s1 with h := s1.h.put l (.loop { q with state := .busy }) } a1 cab1 _ := ⟨I2, q2.tm, q2.nt, q2.df, q2.ab, q2.kok⟩
        obtain ⟨m2, hD2, a2, cab2, w2, p1, p2, p3⟩ := hSB.2 Γ m1 _ (.plain (c :: cs)) b [] a1 cab1 _ F st2 hbk hbf (by rw [hbr]; exact .some hm1)
        have hcab : cab2 = none := by
          have h1 : s2.ab = none := p2.kok
          have h2 := p2.ab
          rw [h1] at h2
          cases h2; rfl
        subst hcab
        refine ⟨m2, hD2, b, _, a2, w2, hbr, hbk, hbf, q1.trans p1, p2, ?_⟩
        refine Arr.of_steps ?_ p3
        have key : Steps P (lone (b.atR ⟨tmps', []⟩ [.code r.assign, .beginRound, .code r.body]) (c :: cs) w) (lone (b.atR a1 [.code r.body]) (c :: cs) _) :=
          Steps.trans q3 (.one (stepR_beginRound hbr (run_beginRound ho1 (by rw [hQ.state]; exact hqs))))
        rw [← hbe] at key
        exact key

theorem callYield_sound (tok : TabOK T P) {ev : Task → Ans} (hev : EvS T P ev) {l : Nat} {first cap : Array Value} {args : List Value} {h : H} {ab : Option (List PanicEntry)} :
    CallS T P (.func (.yield l) first cap) args h ab (callYield T ev l args h (h.get l)) := by
  intro h' ab' hfin
  cases hg : h.get l with
  | none => rw [hg] at hfin; cases hfin
  | some o =>
    rw [hg] at hfin
    cases o with
    | loop r =>
      have hr : callYield T ev l args h (some (.loop r)) = roundRun T ev l h r (putAll r.params.toList args r.tmps) (T.func r.fn) := rfl
      rw [hr] at hfin ⊢
      cases hpa : putAll r.params.toList args r.tmps with
      | none => rw [hpa] at hfin; cases hfin
      | some tm =>
        rw [hpa] at hfin
        cases hfn : T.func r.fn with
        | none => rw [hfn] at hfin; cases hfin
        | some fn =>
          rw [hfn] at hfin
          have hr : roundRun T ev l h r (some tm) (some fn) = cond (codeOK fn.ntmps r.assign && codeOK fn.ntmps r.body) (roundBody T ev l r (runCode T ev ⟨r.fn, some l⟩ r.assign ⟨tm, [], h.touch l, none⟩)) .fail := rfl
          rw [hr] at hfin ⊢
          cases hck : (codeOK fn.ntmps r.assign && codeOK fn.ntmps r.body) with
          | false => rw [hck] at hfin; cases hfin
          | true =>
          rw [hck] at hfin
          rw [Bool.and_eq_true] at hck
          obtain ⟨hA, hB⟩ := hck
          rw [cond_true] at hfin ⊢
          obtain ⟨hf, _⟩ := tok.func r.fn fn hfn
          cases hx1 : runCode T ev ⟨r.fn, some l⟩ r.assign ⟨tm, [], h.touch l, none⟩ with
          | fail => rw [hx1] at hfin; cases hfin
          | ret v h1 ab1 => rw [hx1] at hfin; cases hfin
          | pan v h1 ab1 => rw [hx1] at hfin; cases hfin
          | code e1 s1 =>
            rw [hx1] at hfin
            cases e1 with
            | exit id => cases hfin
            | ret => cases hfin
            | panic c => cases hfin
            | normal =>
              have hr : roundBody T ev l r (.code .normal s1) = roundBody1 T ev s1 l r (s1.h.get l) := rfl
              rw [hr] at hfin ⊢
              cases hg1 : s1.h.get l with
              | none => rw [hg1] at hfin; cases hfin
              | some o1 =>
                rw [hg1] at hfin
                cases o1 with
                | loop q =>
                  have hr : roundBody1 T ev s1 l r (some (.loop q)) = roundBody2 T ev s1 l r q q.state := rfl
                  rw [hr] at hfin ⊢
                  cases hqs : q.state with
                  | ready =>
                    rw [hqs] at hfin
                    have hr : roundBody2 T ev s1 l r q .ready = roundEnd l (runCode T ev ⟨r.fn, some l⟩ r.body { s1 with h := s1.h.put l (.loop { q with state := .busy }) }) := rfl
                    rw [hr] at hfin ⊢
                    cases hx2 : runCode T ev ⟨r.fn, some l⟩ r.body { s1 with h := s1.h.put l (.loop { q with state := .busy }) } with
                    | fail => rw [hx2] at hfin; cases hfin
                    | ret v h1 ab1 => rw [hx2] at hfin; cases hfin
                    | pan v h1 ab1 => rw [hx2] at hfin; cases hfin
                    | code e2 s2 =>
                      rw [hx2] at hfin
                      have hr : roundEnd l (.code e2 s2) = roundEnd1 s2 l e2 (s2.h.get l) := rfl
                      rw [hr] at hfin ⊢
                      cases hg2 : s2.h.get l with
                      | none => rw [hg2] at hfin; cases hfin
                      | some o2 =>
                        rw [hg2] at hfin
                        cases o2 with
                        | loop z =>
                          have hr : roundEnd1 s2 l e2 (some (.loop z)) = roundFin s2 l z e2 := rfl
                          rw [hr] at hfin ⊢
                          obtain ⟨hle, hx⟩ := round_sound (fn := fn) tok hev hg hpa hx1 hg1 hqs hx2 hA hB
                          -- the ends with a record
                          have fin : ∀ st pd v, roundFin s2 l z e2 = .ret v (s2.h.put l (.loop { z with state := st, pending := pd })) none →
                              (∀ (b c : Frame) (cs : List Frame) (m : M) (a : Act) (w w' : World) M0 lb (r' : Loop), b.roundOf = some lb → b.kind = .normal → (∀ jump, (Instr.endRound lb jump).run P w = .ok (.bool jump.isNone) { w with heap := w.heap.setIfInBounds lb (.loop { r' with state := if jump.isNone then .ready else .done, pending := jump }) }) →
                                w' = { w with heap := w.heap.setIfInBounds lb (.loop { r' with state := st, pending := pd }) } → Arr P M0 b [] (c :: cs) m a w e2 → Steps P M0 (lone (c.finish v) cs w')) → (∀ m, VR m v v) →
                              Le h h' ∧ ∀ Γ m hD K f' args' cab w, K.may (.func (.yield l) first cap) → Fin Γ h' → Inv T Γ m hD h w → VR m (.func (.yield l) first cap) f' → LR m args args' → PR m ab cab → K.ok ab →
                                ∃ nx fr0, (callSem f' args').run P w = .ok nx w ∧ startFrame P K.kind nx = some fr0 ∧
                                  ∃ m' hD' cab' w' cr, MLe m m' ∧ Inv T Γ m' hD' h' w' ∧ PR m' ab' cab' ∧ K.ok ab' ∧ RR m' (roundFin s2 l z e2) cr ∧ After P (lone fr0 (K.cs cab) w) cab' w' K cr := by
                            intro st pd v he harr hvv
                            rw [he] at hfin
                            injection hfin with hfin; injection hfin with e1 e2'; subst e1; subst e2'
                            have hput : Le s2.h (s2.h.put l (.loop { z with state := st, pending := pd })) := put_le _ _ _ hg2
                            refine ⟨hle.trans hput, fun Γ m hD K f' args' cab w hK F I hv hl hp hk => ?_⟩
                            rcases hK with ⟨c, cs, rfl⟩ | ⟨_, g, p, q0, hbad⟩
                            · obtain ⟨pl, tmps', hm, k1, m', hD', b, nt, a', w', k2, k3, k4, k5, k6, k7⟩ := hx Γ m hD c cs f' args' w first cap (F.of_le hput) I hv hl
                              have hm' := k5.to _ _ hm
                              have hn := put_noted s2.h l (.loop { z with state := st, pending := pd })
                              have ht : Γ.tch l := hn.elim (fun x => (F.hi _ x).1) (fun x => F.rd _ x.1)
                              obtain ⟨_, o', ho, hO⟩ := k6.inv.get hm' hg2 ht
                              cases hO with
                              | @loop _ z' hZ =>
                                have hO2 : OR T m' pl (.loop { z with state := st, pending := pd }) (.loop { z' with state := st, pending := pd }) := .loop { hZ with state := rfl, pending := rfl }
                                obtain ⟨s1', s2', s3', s4'⟩ := setObj_same w' ho (fun _ _ _ h => by cases h) hO2.calm
                                have I2 := k6.inv.put hm' hg2 F hO2 s1' s2' s3' s4'
                                refine ⟨_, _, k1, rfl, m', _, none, _, .ret v, k5, I2, .none, rfl, by rw [he]; exact .ret (hvv m'), ?_⟩
                                exact harr b c cs m' a' w' _ _ pl.blk z' k2 k3 (fun jump => run_endRound ho jump) rfl k7
                            · cases hbad
                          cases e2 with
                          | normal =>
                            refine fin .ready none (.bool true) rfl (fun b c cs m a w w' M0 lb r' hb hk he hw harr => ?_) (fun m => .bool true)
                            subst hw
                            exact Steps.trans harr (.one (stepR_endRound hb hk (he none)))
                          | ret =>
                            refine fin .done (some .ret) (.bool false) rfl (fun b c cs m a w w' M0 lb r' hb hk he hw harr => ?_) (fun m => .bool false)
                            subst hw
                            obtain ⟨k1, h1⟩ := harr
                            exact h1.trans (.one (stepR_retRound hb hk (he (some .ret))))
                          | exit id =>
                            refine fin .done (some (.exit id)) (.bool false) rfl (fun b c cs m a w w' M0 lb r' hb hk he hw harr => ?_) (fun m => .bool false)
                            subst hw
                            obtain ⟨k1, h1, h2⟩ := harr
                            exact h2.trans (.one (stepR_exitRound h1 hb hk (he (some (.exit id)))))
                          | panic chain =>
                            have hr : roundFin s2 l z (.panic chain) = roundPan s2.h chain s2.df := rfl
                            rw [hr] at hfin ⊢
                            cases hdf : s2.df with
                            | cons d ds => rw [hdf] at hfin; cases hfin
                            | nil =>
                              rw [hdf] at hfin
                              injection hfin with hfin; injection hfin with e1 e2'; subst e1; subst e2'
                              refine ⟨hle, fun Γ m hD K f' args' cab w hK F I hv hl hp hk => ?_⟩
                              rcases hK with ⟨c, cs, rfl⟩ | ⟨_, g, p, q0, hbad⟩
                              · obtain ⟨pl, tmps', hm, k1, m', hD', b, nt, a', w', k2, k3, k4, k5, k6, k7⟩ := hx Γ m hD c cs f' args' w first cap F I hv hl
                                obtain ⟨todo, chain', h1, h2⟩ := k7
                                have hdd : a'.defers = [] := by
                                  have := k6.df
                                  rw [hdf] at this
                                  generalize hq : a'.defers = q at this
                                  cases this; rfl
                                refine ⟨_, _, k1, rfl, m', hD', none, w', .pan chain', k5, k6.inv, .none, rfl, .pan h1, ?_⟩
                                refine Steps.trans h2 (.one (step_leave_panicked ⟨rfl, hdd, fn, ?_⟩))
                                show P.funcs[b.fn]? = some fn
                                rw [k4]; exact hf
                              · cases hbad
                        | _ => cases hfin
                  | _ => rw [hqs] at hfin; cases hfin
                | _ => cases hfin
    | _ => cases hfin

theorem call_sound (tok : TabOK T P) {ev : Task → Ans} (hev : EvS T P ev) (f : Value) (args : List Value) (h : H) (ab : Option (List PanicEntry)) : CallS T P f args h ab (callK T ev args h ab f) := by
  cases f with
  | func fn first cap =>
    cases fn with
    | func g => obtain ⟨first⟩ := first; obtain ⟨cap⟩ := cap; exact callFn_sound tok hev
    | yield l => exact callYield_sound tok hev
    | _ => intro h' ab' hfin; cases hfin
  | _ => intro h' ab' hfin; cases hfin

/-- The evaluator is sound. -/
theorem eval_sound (tok : TabOK T P) : ∀ n, EvS T P (eval T n)
  | 0 => by
    refine ⟨?_, ?_, ?_, ?_⟩
    · intro f args h ab h' ab' hfin
      cases hfin
    · intro fr b s e s' nt h _
      cases h
    · intro fr b s e s' nt h _
      cases h
    · intro fn s mode h' ab' hfin
      cases hfin
  | n + 1 => by
    have ih := eval_sound tok n
    have he : ∀ t, eval T (n + 1) t = F T (eval T n) t := fun _ => rfl
    refine ⟨fun f args h ab => ?_, fun fr b s e s' nt h hok => ?_, fun fr c s e s' nt h hok => ?_, fun fn s mode => ?_⟩
    · rw [he]; exact call_sound tok ih f args h ab
    · rw [he] at h; exact loop_sound tok ih hok h
    · rw [he] at h; exact runCode_sound tok ih _ _ _ _ hok h
    · rw [he]; exact unwind_sound tok ih fn s mode
end Go.Am
/- A closed call, evaluated by the abstract machine, is a call of the model's on every tape. -/
namespace Go.Am
open Go
variable {T : Tab} {P : Program}

theorem tabOK_tabOf (hm : P.follows .mixedOrders = true) : TabOK (tabOf P) P where
  prog := rfl
  info t i h := by
    rcases Tr.get_ofList P.types.toList 0 .nil t i h with ⟨_, h⟩ | h
    · have h : P.types.toList[t]? = some i := h
      have h2 : P.types[t]? = some i := by simpa using h
      have hlt : t < P.types.size := (Array.getElem?_eq_some_iff.1 h2).1
      show (if t < P.types.size then P.types[t]? else Made.infoAt P.toTables Made.depth t) = some i
      rw [if_pos hlt]; exact h2
    · cases h
  func g fn h := by
    have h : joinO ((Tr.ofList (P.funcs.toList.map okFunc) 1 .nil).get g) = some fn := h
    cases hg : (Tr.ofList (P.funcs.toList.map okFunc) 1 .nil).get g with
    | none => rw [hg] at h; cases h
    | some o =>
      rw [hg] at h
      have h : o = some fn := h
      subst h
      rcases Tr.get_ofList _ 0 .nil g _ hg with ⟨_, h⟩ | h
      · rw [Nat.sub_zero, List.getElem?_map] at h
        cases hf : P.funcs.toList[g]? with
        | none => rw [hf] at h; cases h
        | some f =>
          rw [hf] at h
          injection h with h
          have h : cond (funcOK f) (some f) none = some fn := h
          cases ho : funcOK f with
          | false => rw [ho] at h; cases h
          | true =>
            rw [ho] at h
            injection h with h
            subst h
            exact ⟨by simpa using hf, ho⟩
      · cases h
  mixed := hm

/-- What a closed call leaves as it was. -/
structure Kept (w w' : World) : Prop where
  old : ∀ c, c < w.heap.size → w'.heap[c]? = w.heap[c]?
  size : w.heap.size ≤ w'.heap.size
  same : Same w w'

def H.empty : H := ⟨.nil, 0, 0, 0, 0⟩
theorem inv_empty (N : Nat) (w : World) : Inv T ⟨w, M.empty, fun _ => none, 0, N, fun _ => True, fun _ => True⟩ M.empty (fun _ => none) H.empty w where
  obj := fun _ _ h => by cases h
  inj := fun _ _ _ _ h => absurd rfl h
  old := fun _ _ => rfl
  size := Nat.le_refl _
  young := fun _ _ h => absurd rfl h
  same := .refl _
  agree := fun _ h => absurd h (Nat.not_lt_zero _)
  dom := fun _ _ h => by cases h
  fresh := fun _ _ _ => ⟨rfl, rfl⟩
  baseLe := Nat.le_refl _
  keepM := .refl _
  outM := fun _ _ => rfl
  startLe := Nat.le_refl _
  keepH := fun _ _ => rfl
  imm := fun _ _ h => by cases h
  outIm := fun _ _ => rfl

theorem LR.ofGround (m : M) : ∀ {l : List Value}, allGround l = true → LR m l l
  | [], _ => .nil
  | v :: l, h => by
    rw [allGround_cons] at h
    cases e : Am.ground v with
    | false => rw [e] at h; cases h
    | true => rw [e] at h; exact .cons (.refl_of_ground e fun _ _ _ => trivial) (LR.ofGround m h)

/-- A closed call. -/
theorem calls_closed (tok : TabOK T P) {n : Nat} {g : FuncId} {args : List Value} {v : Value} {h : H} {ab : Option (List PanicEntry)} (ha : allGround args = true) (hv : groundDeep v = true)
    (he : eval T n (.call (.func (.func g) #[] #[]) args H.empty none) = .ret v h ab) (w : World) : Calls P g ⟨args⟩ w fun e w' => e = .returned v ∧ Kept w w' := by
  intro cs
  cases n with
  | zero => cases he
  | succ n =>
    have he : callFn T (eval T n) g ([] ++ args ++ []) H.empty none (T.func g) = .ret v h ab := he
    rw [List.nil_append, List.append_nil] at he
    cases hT : T.func g with
    | none => rw [hT] at he; cases he
    | some fn =>
      rw [hT] at he
      have he : bodyRun T (eval T n) g args H.empty none fn fn.body = .ret v h ab := he
      cases hc : fn.body with
      | none => rw [hc] at he; cases he
      | some c =>
        rw [hc] at he
        obtain ⟨_, hx⟩ := body_sound tok (eval_sound tok n) hT hc h ab (by rw [he]; rfl)
        obtain ⟨m', hD', cab', w', cr, fr', k1, k2, k3, k4, k5, k6, k7⟩ := hx ⟨w, M.empty, fun _ => none, 0, h.next, fun _ => True, fun _ => True⟩ _ _ (.plain cs) args none w
          ⟨Nat.le_refl _, fun _ _ => ⟨trivial, trivial⟩, fun _ _ => trivial, fun _ _ => trivial, fun _ _ => trivial⟩ (inv_empty _ w) (LR.ofGround _ ha) .none rfl
        rw [he] at k5
        cases k5 with
        | @ret _ v' _ _ hvr =>
          have := hvr.groundDeep hv
          subst this
          obtain ⟨z1, z2, z3, z4, fn', z5, z6⟩ := k7
          exact ⟨.returned v', w', fr', ⟨rfl, k2.old, k2.size, k2.same⟩, k6, z1, z2, z3, z4, fn', by rw [z1]; exact z5, z6⟩
end Go.Am
