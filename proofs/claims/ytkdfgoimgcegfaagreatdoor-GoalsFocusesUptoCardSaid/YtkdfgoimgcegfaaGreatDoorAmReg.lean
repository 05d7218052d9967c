/- Regions. -/
import Derived.Test.YtkdfgoimgcegfaaGreatDoorAmMix
set_option linter.unusedSectionVars false
set_option linter.unusedSimpArgs false
set_option linter.unusedVariables false
namespace Go.Am
open Go
variable {T : Tab} {P : Program}

theorem getD_replicate_false (n j : Nat) : (Array.replicate n false).getD j false = false := by
  by_cases h : j < n <;> simp [h]

theorem region_drawn (tok : TabOK T P) {ev : Task → Ans} (hev : EvS T P ev) {fr : Fr} {nt id : Nat} {ops : Array Oper} {s s' : S} {e : Ex} (hok : regionOK nt ops true = true) (he : runRegion T ev fr ops true s = .code e s') :
    CodeS T P fr nt (.region id ops true) s e s' := by
  obtain ⟨hops, hdr⟩ := regionOK_ops hok
  have hdr := hdr rfl
  have he : runDrawn T ev ops (befores ops.toList 0 .nil) ops.toList 0 [] s = .code e s' := he
  obtain ⟨rfl, r1, r2, c, tr⟩ := runDrawn_trace tok hev ops.toList 0 [] s e s' (by simp) (Nat.zero_le _) he
  have tr0 := tr
  obtain ⟨t1, t2, t3, t4, _, _, _⟩ := tr0
  have trX : ∃ tmE hE, TraceS T P ops (befores ops.toList 0 .nil) 0 ops.size [] (c.tm 0) (c.h 0) tmE hE c := ⟨_, _, by rw [t1, t2]; exact tr⟩
  -- what needs no world
  let X0 : Mx T P := ⟨ops, c, ⟨default, M.empty, fun _ => none, 0, (c.h ops.size).next, fun _ => True, fun _ => True⟩, M.empty, fun _ => none⟩
  have H0 : MxOK X0 := ⟨trX, hdr, ⟨Nat.le_refl _, fun _ _ => ⟨trivial, trivial⟩, fun _ _ => trivial, fun _ _ => trivial, fun _ _ => trivial⟩⟩
  have hle : Le s.h s'.h := by
    rw [← t2, ← t4]
    refine ⟨H0.mono (i := 0) (j := ops.size) (Nat.zero_le _) (Nat.le_refl _), H0.base (k := ops.size) (Nat.le_refl _), fun b hb => H0.rdUp (i := 0) (Nat.zero_le _) (Nat.le_refl _) hb, fun b hb => H0.wrUp (i := 0) (Nat.zero_le _) (Nat.le_refl _) hb, fun b h1 h2 h3 => ?_, fun d => ?_⟩
    · refine H0.keep (i := 0) (j := ops.size) h1 (Nat.zero_le _) (Nat.le_refl _) fun k _ hk hw => ?_
      rcases wn_cases hw with q | ⟨q, _⟩
      · obtain ⟨_, _, _, _, ou⟩ := H0.step hk
        rcases ou.wr b q with q | q
        · have e1 := H0.base (k := k + 1) (by show k + 1 ≤ ops.size; have : k < ops.size := hk; omega)
          have e2 := H0.base (k := ops.size) (Nat.le_refl _)
          have h2 : b < (X0.c.h ops.size).base := h2
          omega
        · exact h3 (H0.wrUp (i := k + 1) (by omega) (Nat.le_refl _) q)
      · have := H0.mono (i := 0) (j := k) (Nat.zero_le _) (by show k ≤ ops.size; omega)
        have h1 : b < (X0.c.h 0).next := h1
        omega
    · intro b o hb
      have key : ∀ k, k ≤ ops.size → ∀ b o, (c.h k).get b = some o → b < (c.h k).next := by
        intro k
        induction k with
        | zero => exact fun _ => d
        | succ k ih =>
          intro hk b o hb
          obtain ⟨_, _, _, _, ou⟩ := H0.step (k := k) (by show k < ops.size; omega)
          have ou : Outer (c.h k) (c.h1 k) (c.h (k + 1)) := ou
          rw [ou.get] at hb
          rw [ou.next]
          refine (H0.le (k := k) (by show k < ops.size; omega)).dom ?_ b o hb
          intro b o hb
          rw [fresh_eq] at hb ⊢
          exact ih (by omega) b o hb
      exact key ops.size (Nat.le_refl _) b o hb
  refine ⟨hle, fun Γ m hD K b k a cab w F st g1 g2 g3 => ?_⟩
  let X : Mx T P := ⟨ops, c, Γ, m, hD⟩
  have H : MxOK X := ⟨trX, hdr, by rw [← t4] at F; exact F⟩
  have I := st.inv
  rw [← t2] at I
  have J : MxI X := ⟨I.dom, I.baseLe⟩
  have Fn : Fin Γ (c.h ops.size) := H.fin
  have hmonoN : (c.h 0).next ≤ (c.h ops.size).next := H.mono (i := 0) (j := ops.size) (Nat.zero_le _) (Nat.le_refl _)
  have hNe := Fn.next
  have Q0 : Mix X (fun j => (Array.replicate ops.size false).getD j false = true) nt a m hD { w with drawn := w.drawn + 1 } := by
    have hno : ∀ j, ¬ ((Array.replicate ops.size false).getD j false = true) := fun j => by rw [getD_replicate_false]; simp
    refine { obj := I.obj, inj := I.inj, old := I.old, size := I.size, young := I.young, same := I.same.trans ⟨fun _ => rfl, rfl, rfl, rfl⟩, dm := fun x h1 h2 hm => ?_, keepM := .refl _, outM := fun _ _ => rfl,
             A := fun i hi x hx ht hm hcond => ?_, A2 := fun _ _ => rfl, A3 := fun _ _ => rfl, B := fun i hi t v hv hcond => ?_, closed := fun i hi => absurd hi (hno i), nt := st.nt, imm := I.imm, outIm := fun _ _ => rfl }
    · exfalso
      have h2 : x < (c.h ops.size).next := h2
      exact hm (I.fresh x h1 (by omega)).1
    · have hnw : ∀ j, 0 ≤ j → j < i → ¬ X.wn j x := fun j _ hj hw => hno j ((hcond j (by show j < ops.size; have : i ≤ ops.size := hi; omega) hw).2 hj)
      have hx0 : x < (c.h 0).next := by
        by_cases hq : x < (c.h 0).next
        · exact hq
        · exfalso
          obtain ⟨j, _, q2, q3, q4⟩ := H.maker (i := 0) (j := i) (b := x) (Nat.zero_le _) hi (by show (c.h 0).next ≤ x; omega) hx
          exact hnw j (Nat.zero_le _) q2 (wn_range q3 q4)
      rw [H.keep (i := 0) (j := i) hx0 (Nat.zero_le _) hi hnw]
      exact I.agree x hx0 ht hm
    · have key : ∀ j, j ≤ i → (c.tm j).get t = (c.tm 0).get t := by
        intro j
        induction j with
        | zero => exact fun _ => rfl
        | succ j ih =>
          intro hj
          rw [← ih (by omega)]
          obtain ⟨oj, q1, _, q3, _⟩ := H.step (k := j) (by show j < ops.size; have : i ≤ ops.size := hi; omega)
          have q3 : c.tm (j + 1) = putT (c.tm j) (c.v j) oj.dst := q3
          rw [q3]
          cases hdj : oj.dst with
          | none => rfl
          | some d =>
            rw [putT_some, Tr.get_set_ne]
            rintro rfl
            exact hno j ((hcond j oj q1 hdj).2 (by omega))
      have hv : (c.tm i).get t = some v := hv
      rw [key i (Nat.le_refl _), t1] at hv
      exact st.tm t v hv
  have hdrawn : unl ops.size (Array.replicate ops.size false) ≤ ops.size := by
    unfold unl
    refine Nat.le_trans (List.countP_le_length) ?_
    simp
  obtain ⟨a', m', hD', w', k1, k2, k3, k4⟩ := mix_run H J hops b k (K.cs cab) ops.size (w.tape w.drawn (.order b.fn id)) _ a m hD { w with drawn := w.drawn + 1 } Q0 (by simp; rfl) hdrawn
  have hinv : Inv T Γ m' hD' s'.h w' := by
    rw [← t4]
    refine { obj := k3.obj, inj := k3.inj, old := k3.old, size := k3.size, young := k3.young, same := k3.same, agree := fun x hx ht hm => k3.A ops.size (Nat.le_refl _) x hx ht hm fun j hj _ => Iff.rfl,
             dom := H.dom J (Nat.le_refl _), fresh := fun x h1 h2 => ?_, baseLe := ?_, keepM := I.keepM.trans k3.keepM, outM := fun x hx => ?_, startLe := ?_, keepH := fun x hx => ?_, imm := k3.imm, outIm := fun c hc => (k3.outIm c hc).trans (I.outIm c hc) }
    · have hm : m' x = m x := k3.outM x (.inr h1)
      have hd : hD' x = hD x := k3.A3 x h1
      rw [hm, hd]
      exact I.fresh x (by omega) h2
    · have : (c.h ops.size).base = (c.h 0).base := H.base (k := ops.size) (Nat.le_refl _)
      have := I.baseLe
      omega
    · have hm : m' x = m x := k3.outM x (by
        rcases hx with hx | hx
        · left; have := I.startLe; show x < (c.h 0).next; omega
        · right; show (c.h ops.size).next ≤ x; omega)
      rw [hm]; exact I.outM x hx
    · have := I.startLe; omega
    · have hd : hD' x = hD x := by
        rcases hx with hx | hx
        · exact k3.A2 x fun j hj hw => hx (H.wrt J hj hw)
        · exact k3.A3 x (by show (c.h ops.size).next ≤ x; omega)
      rw [hd]; exact I.keepH x hx
  refine ⟨m', hD', a', cab, w', k1, ⟨hinv, ?_, k3.nt, by rw [r1, k2]; exact st.df.mono k1, by rw [r2]; exact st.ab.mono k1, by rw [r2]; exact st.kok⟩, ?_⟩
  · intro t v hv
    rw [← t3] at hv
    exact k3.B ops.size (Nat.le_refl _) t v hv fun j o hj _ => Iff.rfl
  · refine Steps.head stepR_region_draw ?_
    have hsch : Region.schedule (P.follows .mixedOrders) ops (w.tape w.drawn (.order b.fn id)) = Region.linearise.go .any ops ops.size (w.tape w.drawn (.order b.fn id)) (Array.replicate ops.size false) [] := by
      unfold Region.schedule
      rw [tok.mixed]
      rfl
    rw [hsch]
    exact k4
theorem region_sound (tok : TabOK T P) {ev : Task → Ans} (hev : EvS T P ev) {fr : Fr} {nt id : Nat} {ops : Array Oper} {draw : Bool} {s s' : S} {e : Ex} (hok : regionOK nt ops draw = true) (he : runRegion T ev fr ops draw s = .code e s') :
    CodeS T P fr nt (.region id ops draw) s e s' := by
  cases draw with
  | false => exact region_seq tok hev hok he
  | true => exact region_drawn tok hev hok he
end Go.Am
/- Code: the whole. -/
namespace Go.Am
open Go
variable {T : Tab} {P : Program}

theorem stepR_startRange {b : Frame} {a : Act} {k : List Item} {cs : List Frame} {w : World} {g : Operand} {ps : Array Tmp} {assign body : Code} {l : Nat} {mark : List Deferred} {w1 w2 : World} {nx : Next} {fr0 : Frame}
    (he : (Instr.enterLoop b.fn a.tmps ps assign body b.roundOf).run P w = .ok (l, mark) w1)
    (hc : (callSem (a.eval g) [.func (.yield l) #[] #[]]).run P w1 = .ok nx w2) (hs : startFrame P .normal nx = some fr0) :
    step P (lone (b.atR a (.code (.rangeFunc g ps assign body) :: k)) cs w) = .next (lone fr0 (b.atR { a with defers := mark ++ a.defers } (.inRangeFunc l :: k) :: cs) w2) := by
  refine step_lone_go ?_
  have hev := Frame.eval_atR b { a with defers := mark ++ a.defers } (.inRangeFunc l :: k)
  simp only [Frame.atR] at hev
  have hag : ({ tmps := a.tmps, defers := mark ++ a.defers } : Act).eval g = a.eval g := by cases g <;> rfl
  have hc' : ((Deferred.ofValue (({ tmps := a.tmps, defers := mark ++ a.defers } : Act).eval g) #[.func (.yield l) #[] #[]]).run P w1).andThen (fun d w => (invoke d.target d.args).run P w) = .ok nx w2 := by
    rw [hag, ← hc]
    simp [callSem]
  have hy : ({ tmps := a.tmps, defers := mark ++ a.defers } : Act).eval (.const (.func (.yield l) #[] #[])) = .func (.yield l) #[] #[] := rfl
  cases nx <;> first
    | (cases hs; done)
    | (injection hs with hs; subst hs
       simp [stepG, stepG.exec, Frame.atR, Sem.runT_eq, he, GStep.bare_after, stepG.apply, hev, Sem.run_bind, resolve, hy, hc'])
theorem stepR_endRange {b : Frame} {a : Act} {k : List Item} {cs : List Frame} {w : World} {l : Nat} {jump : Option Code} {w' : World} (h : (Instr.endLoop l).run P w = .ok jump w') :
    step P (lone (b.atR a (.endRangeFunc l :: k)) cs w) = .next (lone (b.atR a ((jump.map Item.code).toList ++ k)) cs w') :=
  step_lone_go (by simp [stepG, stepG.exec, Frame.atR, Sem.runT_eq, h, GStep.bare_after])
theorem finish_inRange {b : Frame} {a : Act} {k : List Item} (l : Nat) (v : Value) : (b.atR a (.inRangeFunc l :: k)).finish v = b.atR a (.endRangeFunc l :: k) := by
  simp [Frame.finish, Frame.atR]

theorem run_endLoop {w : World} {l : Nat} {r : Loop} (hw : w.heap[l]? = some (.loop r)) (hs : r.state ≠ .busy) :
    (Instr.endLoop l).run P w = .ok r.pending { w with heap := w.heap.setIfInBounds l (.loop { r with state := .exhausted }) } := by
  have h1 := run_getObj (P := P) hw rfl
  simp [Instr.endLoop, Instr.getLoop, h1, run_setObj (P := P) hw rfl]
  exact fun hb => absurd hb hs

/-- A loop over a function, from its record on. -/
theorem rfEnter_sound {ev : Task → Ans} (hev : EvS T P ev) {fr : Fr} {nt : Nat} {params : Array Tmp} {assign body : Code} {s : S} {d : Nat} {fv : Value} {e : Ex} {s' : S}
    (hP : paramsOK nt params.toList = true) (hA : codeOK nt assign = true) (hB : codeOK nt body = true)
    (he : rfEnter ev fr params assign body s d fv = .code e s') :
    Le s.h s'.h ∧ ∀ Γ m hD K (b : Frame) k a cab w f' pd, Fin Γ s'.h → StR T Γ m hD K nt s a cab w → b.kind = K.kind → b.fn = fr.fn → RoundR m fr.round b.roundOf → VR m fv f' → m d = some pd →
      ∃ nx fr0 w1, w1 = { w with heap := w.heap.push (.loop ⟨.ready, none, b.fn, a.tmps, params, assign, body, pd.blk⟩) } ∧ (callSem f' [.func (.yield w.heap.size) #[] #[]]).run P w1 = .ok nx w1 ∧ startFrame P .normal nx = some fr0 ∧
      ∃ m' hD' a' cab' w', MLe m m' ∧ StR T Γ m' hD' K nt s' a' cab' w' ∧ Arr P (lone fr0 (b.atR a (.inRangeFunc w.heap.size :: k) :: K.cs cab) w1) b k (K.cs cab') m' a' w' e := by
  have he : rfAfter ev fr s s.h.next (ev (.call fv [.func (.yield s.h.next) #[] #[]] (s.h.new (.loop { state := .ready, pending := none, fn := fr.fn, tmps := s.tm, params, assign, body, defers := d })) none)) = .code e s' := he
  generalize hlp : (AObj.loop { state := .ready, pending := none, fn := fr.fn, tmps := s.tm, params, assign, body, defers := d }) = lp at he
  have hcall := hev.call fv [.func (.yield s.h.next) #[] #[]] (s.h.new lp) none
  generalize hans : ev (.call fv [.func (.yield s.h.next) #[] #[]] (s.h.new lp) none) = ans at he hcall
  -- the record, laid
  have laid : ∀ Γ m hD K (b : Frame) a cab w pd, Fin Γ (s.h.new lp) → StR T Γ m hD K nt s a cab w → b.fn = fr.fn → m d = some pd → ∃ m1 hD1, MLe m m1 ∧ m1 s.h.next = some ⟨w.heap.size, 0, 0, 0, 1⟩ ∧
      Inv T Γ m1 hD1 (s.h.new lp) { w with heap := w.heap.push (.loop ⟨.ready, none, b.fn, a.tmps, params, assign, body, pd.blk⟩) } := by
    intro Γ m hD K b a cab w pd F st g2 hd
    refine newObj_sound st.inv (pl := ⟨w.heap.size, 0, 0, 0, 1⟩) F rfl (fun m' hm _ => ?_) (fun _ _ _ h => by cases h)
    rw [← hlp]
    refine .loop ⟨rfl, rfl, g2, st.tm.mono hm, rfl, rfl, rfl, ⟨pd, hm.to _ _ hd, rfl⟩, ?_, ?_, ?_⟩
    · rw [show a.tmps.size = nt from st.nt]; exact hP
    · rw [show a.tmps.size = nt from st.nt]; exact hA
    · rw [show a.tmps.size = nt from st.nt]; exact hB
  cases ans with
  | fail => cases he
  | code x y => cases he
  | ret v h1 ab1 =>
    have he : rfAfter1 ev fr s s.h.next h1 (h1.get s.h.next) = .code e s' := he
    obtain ⟨hle, hc⟩ := hcall h1 ab1 rfl
    cases hg : h1.get s.h.next with
    | none => rw [hg] at he; cases he
    | some o =>
      rw [hg] at he
      cases o with
      | loop r =>
        have he : rfAfter2 ev fr s s.h.next h1 r = .code e s' := he
        unfold rfAfter2 at he
        have hnb : r.state ≠ .busy := fun hb => by rw [hb] at he; cases he
        have he2 : (match r.pending with
            | none => Ans.code .normal { s with h := h1.put s.h.next (.loop { r with state := .exhausted }) }
            | some c => cond (jumpOK c) (ev (.run fr c { s with h := h1.put s.h.next (.loop { r with state := .exhausted }) })) .fail) = .code e s' := by
          cases hr : r.state <;> rw [hr] at he <;> first | exact he | exact absurd hr hnb
        clear he
        generalize hlp2 : AObj.loop { r with state := .exhausted } = lp2 at he2
        have hput : Le h1 (h1.put s.h.next lp2) := put_le _ _ _ hg
        -- what the two ways share
        have share : ∀ Γ m hD K (b : Frame) k a cab w f' pd, Fin Γ (h1.put s.h.next lp2) → StR T Γ m hD K nt s a cab w → b.kind = K.kind → b.fn = fr.fn → VR m fv f' → m d = some pd →
            ∃ nx fr0 w1, w1 = { w with heap := w.heap.push (.loop ⟨.ready, none, b.fn, a.tmps, params, assign, body, pd.blk⟩) } ∧ (callSem f' [.func (.yield w.heap.size) #[] #[]]).run P w1 = .ok nx w1 ∧ startFrame P .normal nx = some fr0 ∧
            ∃ m' hD' w', MLe m m' ∧ Inv T Γ m' hD' (h1.put s.h.next lp2) w' ∧
              Steps P (lone fr0 (b.atR a (.inRangeFunc w.heap.size :: k) :: K.cs cab) w1) (lone (b.atR a ((r.pending.map Item.code).toList ++ k)) (K.cs cab) w') := by
          intro Γ m hD K b k a cab w f' pd F st g1 g2 hf hd
          have F1 := F.of_le hput
          obtain ⟨m1, hD1, q1, q2, q3⟩ := laid Γ m hD K b a cab w pd (F1.of_le hle) st g2 hd
          obtain ⟨nx, fr0, p1, p2, m2, hD2, cab2, w2, cr, p3, p4, p5, p6, p7, p8⟩ := hc Γ m1 hD1 (.plain (b.atR a (.inRangeFunc w.heap.size :: k) :: K.cs cab)) f' [.func (.yield w.heap.size) #[] #[]] none _ (.inl ⟨_, _, rfl⟩) F1 q3
            (hf.mono q1) (.cons (VR.yield (pl := ⟨w.heap.size, 0, 0, 0, 1⟩) q2) .nil) .none rfl
          refine ⟨nx, fr0, _, rfl, p1, p2, ?_⟩
          cases p7 with
          | ret hv =>
            have p8 := p8.plain_ret
            rw [finish_inRange] at p8
            have hm2 := p3.to _ _ q2
            have hn := put_noted h1 s.h.next lp2
            have ht : Γ.tch s.h.next := hn.elim (fun x => (F.hi _ x).1) (fun x => F.rd _ x.1)
            obtain ⟨_, o', ho, hO⟩ := p4.get hm2 hg ht
            cases hO with
            | @loop _ r' hL =>
              have hO2 : OR T m2 ⟨w.heap.size, 0, 0, 0, 1⟩ lp2 (.loop { r' with state := .exhausted }) := by rw [← hlp2]; exact .loop { hL with state := rfl }
              obtain ⟨s1, s2, s3, s4⟩ := setObj_same w2 ho (fun _ _ _ h => by cases h) hO2.calm
              refine ⟨m2, _, _, q1.trans p3, p4.put hm2 hg F hO2 s1 s2 s3 s4, p8.trans (.one ?_)⟩
              have := stepR_endRange (b := b) (a := a) (k := k) (cs := K.cs cab) (run_endLoop (P := P) ho (by rw [hL.state]; exact hnb))
              rw [show r.pending.map Item.code = r'.pending.map Item.code from by rw [hL.pending]]
              exact this
        cases hp : r.pending with
        | none =>
          rw [hp] at he2
          injection he2 with e1 e2; subst e1; subst e2
          refine ⟨(new_le s.h lp).trans (hle.trans hput), fun Γ m hD K b k a cab w f' pd F st g1 g2 g3 hf hd => ?_⟩
          obtain ⟨nx, fr0, w1, z1, z2, z3, m', hD', w', z4, z5, z6⟩ := share Γ m hD K b k a cab w f' pd F st g1 g2 hf hd
          rw [hp] at z6
          exact ⟨nx, fr0, w1, z1, z2, z3, m', hD', a, cab, w', z4, st.mono z4 z5, z6⟩
        | some c =>
          rw [hp] at he2
          have hj : jumpOK c = true := by
            cases hq : jumpOK c with
            | true => rfl
            | false => simp only [hq] at he2; cases he2
          simp only [hj, cond_true] at he2
          have hcok : codeOK nt c = true := by
            cases c <;> first | rfl | (cases hj; done)
          have hrun := hev.run fr c _ e s' nt he2 hcok
          refine ⟨(new_le s.h lp).trans (hle.trans (hput.trans hrun.1)), fun Γ m hD K b k a cab w f' pd F st g1 g2 g3 hf hd => ?_⟩
          obtain ⟨nx, fr0, w1, z1, z2, z3, m', hD', w', z4, z5, z6⟩ := share Γ m hD K b k a cab w f' pd (F.of_le hrun.1) st g1 g2 hf hd
          rw [hp] at z6
          obtain ⟨m2, hD2, a2, cab2, w2, j1, j2, j3⟩ := hrun.2 Γ m' hD' K b k a cab w' F (st.mono z4 z5) g1 g2 (g3.mono z4)
          exact ⟨nx, fr0, w1, z1, z2, z3, m2, hD2, a2, cab2, w2, z4.trans j1, j2, .of_steps z6 j3⟩
      | _ => cases he
  | pan ch h1 ab1 =>
    have he : Ans.code (.panic ch) { s with h := h1 } = .code e s' := he
    injection he with e1 e2; subst e1; subst e2
    obtain ⟨hle, hc⟩ := hcall h1 ab1 rfl
    refine ⟨(new_le s.h lp).trans hle, fun Γ m hD K b k a cab w f' pd F st g1 g2 g3 hf hd => ?_⟩
    obtain ⟨m1, hD1, q1, q2, q3⟩ := laid Γ m hD K b a cab w pd (F.of_le hle) st g2 hd
    obtain ⟨nx, fr0, p1, p2, m2, hD2, cab2, w2, cr, p3, p4, p5, p6, p7, p8⟩ := hc Γ m1 hD1 (.plain (b.atR a (.inRangeFunc w.heap.size :: k) :: K.cs cab)) f' [.func (.yield w.heap.size) #[] #[]] none _ (.inl ⟨_, _, rfl⟩) F q3
      (hf.mono q1) (.cons (VR.yield (pl := ⟨w.heap.size, 0, 0, 0, 1⟩) q2) .nil) .none rfl
    refine ⟨nx, fr0, _, rfl, p1, p2, ?_⟩
    cases p7 with
    | pan hch =>
      have p8 := p8.plain_pan
      rw [Frame.raise_atR] at p8
      exact ⟨m2, hD2, a, cab, w2, q1.trans p3, st.mono (q1.trans p3) p4, _, _, hch, p8⟩
end Go.Am
/- Code: the whole, put together. -/
namespace Go.Am
open Go
variable {T : Tab} {P : Program}

theorem run_enterLoop_none (w : World) (fn : FuncId) (tmps : Array Value) (ps : Array Tmp) (as bd : Code) :
    (Instr.enterLoop fn tmps ps as bd none).run P w = .ok (w.heap.size + 1, [{ target := .collected w.heap.size, args := #[] }])
      { w with heap := (w.heap.push (.deferred (some []))).push (.loop ⟨.ready, none, fn, tmps, ps, as, bd, w.heap.size⟩) } := by
  simp [Instr.enterLoop]
  rfl
theorem run_enterLoop_some {w : World} {l : Nat} {r : Loop} (hw : w.heap[l]? = some (.loop r)) (fn : FuncId) (tmps : Array Value) (ps : Array Tmp) (as bd : Code) :
    (Instr.enterLoop fn tmps ps as bd (some l)).run P w = .ok (w.heap.size, []) { w with heap := w.heap.push (.loop ⟨.ready, none, fn, tmps, ps, as, bd, r.defers⟩) } := by
  simp [Instr.enterLoop, Instr.getLoop, run_getObj (P := P) hw rfl]

theorem rangeFunc_sound {ev : Task → Ans} (hev : EvS T P ev) {fr : Fr} {nt : Nat} {f : Operand} {params : Array Tmp} {assign body : Code} {s : S} {e : Ex} {s' : S}
    (hok : codeOK nt (.rangeFunc f params assign body) = true) (he : rangeFuncK ev fr params assign body s (opv s.tm f) = .code e s') : CodeS T P fr nt (.rangeFunc f params assign body) s e s' := by
  have hok : (constOK f && (paramsOK nt params.toList && (codeOK nt assign && codeOK nt body))) = true := hok
  rw [Bool.and_eq_true, Bool.and_eq_true, Bool.and_eq_true] at hok
  obtain ⟨hcf, hP, hA, hB⟩ := hok
  cases hf : opv s.tm f with
  | none => rw [hf] at he; cases he
  | some fv =>
    rw [hf] at he
    have he : (match fr.round with
      | some l => rfIn ev fr params assign body s l fv (s.h.get l)
      | none => rfEnter ev fr params assign body { s with h := s.h.new (.deferred (some [])), df := { target := .collected s.h.next, args := #[] } :: s.df } s.h.next fv) = .code e s' := he
    cases hr : fr.round with
    | some l =>
      rw [hr] at he
      cases hg : s.h.get l with
      | none => simp only [hg] at he; cases he
      | some o =>
        simp only [hg] at he
        cases o with
        | loop r =>
          have he : rfEnter ev fr params assign body { s with h := s.h.touch l } r.defers fv = .code e s' := he
          obtain ⟨hle, hx⟩ := rfEnter_sound hev hP hA hB he
          refine ⟨(touch_le s.h l).trans hle, fun Γ m hD K b k a cab w F st g1 g2 g3 => ?_⟩
          have F1 := F.of_le hle
          have ht : Γ.tch l := (touch_noted s.h l).elim (fun x => (F1.hi l x).1) (F1.rd l)
          have g3' := g3
          rw [hr] at g3'
          generalize hbr : b.roundOf = br at g3'
          cases g3' with
          | @some _ pl hm =>
            obtain ⟨_, o', ho, hO⟩ := st.inv.get hm hg ht
            cases hO with
            | @loop _ r' hL =>
              obtain ⟨pd, d1, d2⟩ := hL.defers
              have st1 : StR T Γ m hD K nt { s with h := s.h.touch l } a cab w := ⟨st.inv.touch l, st.tm, st.nt, st.df, st.ab, st.kok⟩
              obtain ⟨nx, fr0, w1, z1, z2, z3, m', hD', a', cab', w', z4, z5, z6⟩ := hx Γ m hD K b k a cab w (a.eval f) pd F st1 g1 g2 g3 (eval_of_TR st.tm hf hcf) d1
              refine ⟨m', hD', a', cab', w', z4, z5, .of_steps (.one ?_) z6⟩
              subst z1
              have hen := run_enterLoop_some (P := P) ho b.fn a.tmps params assign body
              rw [← hbr, d2] at hen
              have := stepR_startRange (b := b) (a := a) (k := k) (cs := K.cs cab) hen z2 z3
              simpa using this
        | _ => cases he
    | none =>
      rw [hr] at he
      have he : rfEnter ev fr params assign body { s with h := s.h.new (.deferred (some [])), df := { target := .collected s.h.next, args := #[] } :: s.df } s.h.next fv = .code e s' := he
      obtain ⟨hle, hx⟩ := rfEnter_sound hev hP hA hB he
      refine ⟨(new_le s.h _).trans hle, fun Γ m hD K b k a cab w F st g1 g2 g3 => ?_⟩
      have F1 := F.of_le hle
      have hbn : b.roundOf = none := by rw [hr] at g3; cases hb : b.roundOf <;> rw [hb] at g3 <;> first | rfl | cases g3
      obtain ⟨m1, hD1, q1, q2, q3⟩ := newObj_sound st.inv (o' := .deferred (some [])) (pl := ⟨w.heap.size, 0, 0, 0, 1⟩) F1 rfl (fun m' _ _ => .deferred .nil) (fun _ _ _ h => by cases h)
      have st1 : StR T Γ m1 hD1 K nt { s with h := s.h.new (.deferred (some [])), df := { target := .collected s.h.next, args := #[] } :: s.df } { a with defers := { target := .collected w.heap.size, args := #[] } :: a.defers } cab
          { w with heap := w.heap.push (.deferred (some [])) } := ⟨q3, st.tm.mono q1, st.nt, .cons (.collected (pl := ⟨w.heap.size, 0, 0, 0, 1⟩) q2) (st.df.mono q1), st.ab.mono q1, st.kok⟩
      have haf : ({ a with defers := { target := .collected w.heap.size, args := #[] } :: a.defers } : Act).eval f = a.eval f := by cases f <;> rfl
      obtain ⟨nx, fr0, w1, z1, z2, z3, m', hD', a', cab', w', z4, z5, z6⟩ := hx Γ m1 hD1 K b k _ cab _ (a.eval f) ⟨w.heap.size, 0, 0, 0, 1⟩ F st1 g1 g2 (g3.mono q1) ((eval_of_TR st.tm hf hcf).mono q1) q2
      refine ⟨m', hD', a', cab', w', q1.trans z4, z5, .of_steps (.one ?_) z6⟩
      subst z1
      have hen := run_enterLoop_none (P := P) w b.fn a.tmps params assign body
      rw [← hbn] at hen
      have hsz : ({ w with heap := w.heap.push (.deferred (some [])) } : World).heap.size = w.heap.size + 1 := by simp
      rw [hsz] at z2 ⊢
      exact stepR_startRange (b := b) (a := a) (k := k) (cs := K.cs cab) hen z2 z3

theorem runCode_sound (tok : TabOK T P) {ev : Task → Ans} (hev : EvS T P ev) {fr : Fr} {nt : Nat} : ∀ (c : Code) (s : S) (e : Ex) (s' : S), codeOK nt c = true → runCode T ev fr c s = .code e s' → CodeS T P fr nt c s e s' := by
  intro c
  induction c with
  | skip =>
    intro s e s' _ he
    injection he with h1 h2; subst h1; subst h2
    exact RunS.refl _ (fun b k a cs w => .one stepR_skip)
  | region id ops draw => intro s e s' hok he; exact region_sound tok hev hok he
  | seq x y ihx ihy =>
    intro s e s' hok he
    have hok : (codeOK nt x && codeOK nt y) = true := hok
    rw [Bool.and_eq_true] at hok
    have he : seqK (runCode T ev fr y) (runCode T ev fr x s) = .code e s' := he
    have hstep : ∀ (b : Frame) k a cs w, Steps P (lone (b.atR a (.code (.seq x y) :: k)) cs w) (lone (b.atR a (.code x :: .code y :: k)) cs w) := fun b k a cs w => .one stepR_seq
    cases hx : runCode T ev fr x s with
    | code ex s1 =>
      rw [hx] at he
      have hX := ihx s ex s1 hok.1 hx
      cases ex with
      | normal => exact (hX.seq (ihy s1 e s' hok.2 he)).head hstep
      | exit id => injection he with h1 h2; subst h1; subst h2; exact (hX.pass (fun k => .code y :: k) (by simp) (fun id k => rfl)).head hstep
      | ret => injection he with h1 h2; subst h1; subst h2; exact (hX.pass (fun k => .code y :: k) (by simp) (fun id k => rfl)).head hstep
      | panic ch => injection he with h1 h2; subst h1; subst h2; exact (hX.pass (fun k => .code y :: k) (by simp) (fun id k => rfl)).head hstep
    | fail => rw [hx] at he; cases he
    | ret a b c => rw [hx] at he; cases he
    | pan a b c => rw [hx] at he; cases he
  | cond x a b iha ihb =>
    intro s e s' hok he
    have hok : (constOK x && (codeOK nt a && codeOK nt b)) = true := hok
    rw [Bool.and_eq_true, Bool.and_eq_true] at hok
    have he : condK (runCode T ev fr a) (runCode T ev fr b) s (opv s.tm x) = .code e s' := he
    cases hx : opv s.tm x with
    | none => rw [hx] at he; cases he
    | some v =>
      rw [hx] at he
      cases v with
      | bool q =>
        have key : ∃ c, (c = if q then a else b) ∧ CodeS T P fr nt c s e s' := by
          cases q with
          | true => exact ⟨a, rfl, iha s e s' hok.2.1 he⟩
          | false => exact ⟨b, rfl, ihb s e s' hok.2.2 he⟩
        obtain ⟨c, hc, hS⟩ := key
        refine ⟨hS.1, fun Γ m hD K bb k act cab w F st g1 g2 g3 => ?_⟩
        obtain ⟨m', hD', a', cab', w', k1, k2, k3⟩ := hS.2 Γ m hD K bb k act cab w F st g1 g2 g3
        have hv := eval_of_TR st.tm hx hok.1
        generalize hq : act.eval x = u at hv
        cases hv
        refine ⟨m', hD', a', cab', w', k1, k2, .of_steps (.one ?_) k3⟩
        rw [hc]
        exact stepR_cond hq
      | _ => cases he
  | block id x ih =>
    intro s e s' hok he
    have he : blockK id (runCode T ev fr x s) = .code e s' := he
    cases hx : runCode T ev fr x s with
    | code ex s1 =>
      rw [hx] at he
      have hX := ih s ex s1 hok hx
      have hstep : ∀ (b : Frame) k a cs w, Steps P (lone (b.atR a (.code (.block id x) :: k)) cs w) (lone (b.atR a (.code x :: .inBlock id :: k)) cs w) := fun b k a cs w => .one stepR_block
      cases ex with
      | normal =>
        injection he with h1 h2; subst h1; subst h2
        refine ⟨hX.1, fun Γ m hD K b k a cab w F st g1 g2 g3 => ?_⟩
        obtain ⟨m', hD', a', cab', w', k1, k2, k3⟩ := hX.2 Γ m hD K b (.inBlock id :: k) a cab w F st g1 g2 g3
        exact ⟨m', hD', a', cab', w', k1, k2, (hstep b k a _ w).trans (Steps.trans k3 (.one stepR_inBlock))⟩
      | exit i =>
        have he : cond (Nat.beq i id) (.code .normal s1) (.code (.exit i) s1) = Ans.code e s' := he
        refine ⟨?_, fun Γ m hD K b k a cab w F st g1 g2 g3 => ?_⟩
        · cases hb : Nat.beq i id <;> rw [hb] at he <;> (injection he with h1 h2; subst h2; exact hX.1)
        · have F' : Fin Γ s1.h := by cases hb : Nat.beq i id <;> rw [hb] at he <;> (injection he with h1 h2; subst h2; exact F)
          obtain ⟨m', hD', a', cab', w', k1, k2, kk, q1, q2⟩ := hX.2 Γ m hD K b (.inBlock id :: k) a cab w F' st g1 g2 g3
          cases hb : Nat.beq i id with
          | true =>
            rw [hb] at he
            injection he with h1 h2; subst h1; subst h2
            have := nbeq_true hb
            subst this
            have hex : exitTo i (.inBlock i :: k) = some k := by simp [exitTo]
            rw [hex] at q1
            exact ⟨m', hD', a', cab', w', k1, k2, (hstep b k a _ w).trans (q2.trans (.one (stepR_exit q1)))⟩
          | false =>
            rw [hb] at he
            injection he with h1 h2; subst h1; subst h2
            have hne := nbeq_false hb
            have hex : exitTo i (.inBlock id :: k) = exitTo i k := by
              have : (id == i) = false := by simp; exact fun h => hne h.symm
              simp [exitTo, this]
            rw [hex] at q1
            exact ⟨m', hD', a', cab', w', k1, k2, kk, q1, (hstep b k a _ w).trans q2⟩
      | ret =>
        injection he with h1 h2; subst h1; subst h2
        refine ⟨hX.1, fun Γ m hD K b k a cab w F st g1 g2 g3 => ?_⟩
        obtain ⟨m', hD', a', cab', w', k1, k2, k3⟩ := hX.2 Γ m hD K b (.inBlock id :: k) a cab w F st g1 g2 g3
        exact ⟨m', hD', a', cab', w', k1, k2, Arr.of_steps (e := .ret) (hstep b k a _ w) k3⟩
      | panic ch =>
        injection he with h1 h2; subst h1; subst h2
        refine ⟨hX.1, fun Γ m hD K b k a cab w F st g1 g2 g3 => ?_⟩
        obtain ⟨m', hD', a', cab', w', k1, k2, k3⟩ := hX.2 Γ m hD K b (.inBlock id :: k) a cab w F st g1 g2 g3
        exact ⟨m', hD', a', cab', w', k1, k2, Arr.of_steps (e := .panic ch) (hstep b k a _ w) k3⟩
    | fail => rw [hx] at he; cases he
    | ret a b c => rw [hx] at he; cases he
    | pan a b c => rw [hx] at he; cases he
  | loop x ih =>
    intro s e s' hok he
    have he : loopK ev fr x (runCode T ev fr x s) = .code e s' := he
    have hstep : ∀ (b : Frame) k a cs w, Steps P (lone (b.atR a (.code (.loop x) :: k)) cs w) (lone (b.atR a (.code x :: .inLoop x :: k)) cs w) := fun b k a cs w => .one stepR_loop
    cases hx : runCode T ev fr x s with
    | code ex s1 =>
      rw [hx] at he
      have hX := ih s ex s1 hok hx
      cases ex with
      | normal => exact (hX.seq (hev.loop fr x s1 e s' nt he hok)).head hstep
      | exit id => injection he with h1 h2; subst h1; subst h2; exact (hX.pass (fun k => .inLoop x :: k) (by simp) (fun id k => rfl)).head hstep
      | ret => injection he with h1 h2; subst h1; subst h2; exact (hX.pass (fun k => .inLoop x :: k) (by simp) (fun id k => rfl)).head hstep
      | panic ch => injection he with h1 h2; subst h1; subst h2; exact (hX.pass (fun k => .inLoop x :: k) (by simp) (fun id k => rfl)).head hstep
    | fail => rw [hx] at he; cases he
    | ret a b c => rw [hx] at he; cases he
    | pan a b c => rw [hx] at he; cases he
  | rangeFunc f ps as bd _ _ => intro s e s' hok he; exact rangeFunc_sound hev hok he
  | exit id =>
    intro s e s' _ he
    injection he with h1 h2; subst h1; subst h2
    exact ⟨.refl _, fun Γ m hD K b k a cab w F st g1 g2 g3 => ⟨m, hD, a, cab, w, .refl _, st, k, rfl, .refl _ _⟩⟩
  | scope x ih =>
    intro s e s' hok he
    have he : runCode T ev fr x s = .code e s' := he
    have hX := ih s e s' hok he
    have hstep : ∀ (b : Frame) k a cs w, Steps P (lone (b.atR a (.code (.scope x) :: k)) cs w) (lone (b.atR a (.code x :: .inScope x :: k)) cs w) := fun b k a cs w => .one stepR_scope
    cases e with
    | normal =>
      refine ⟨hX.1, fun Γ m hD K b k a cab w F st g1 g2 g3 => ?_⟩
      obtain ⟨m', hD', a', cab', w', k1, k2, k3⟩ := hX.2 Γ m hD K b (.inScope x :: k) a cab w F st g1 g2 g3
      exact ⟨m', hD', a', cab', w', k1, k2, (hstep b k a _ w).trans (Steps.trans k3 (.one stepR_inScope))⟩
    | exit id => exact (hX.pass (fun k => .inScope x :: k) (by simp) (fun id k => rfl)).head hstep
    | ret => exact (hX.pass (fun k => .inScope x :: k) (by simp) (fun id k => rfl)).head hstep
    | panic ch => exact (hX.pass (fun k => .inScope x :: k) (by simp) (fun id k => rfl)).head hstep
  | label l =>
    intro s e s' _ he
    injection he with h1 h2; subst h1; subst h2
    exact RunS.refl _ (fun b k a cs w => .one stepR_label)
  | goto l => intro s e s' _ he; cases he
  | ret =>
    intro s e s' _ he
    injection he with h1 h2; subst h1; subst h2
    exact ⟨.refl _, fun Γ m hD K b k a cab w F st g1 g2 g3 => ⟨m, hD, a, cab, w, .refl _, st, k, .refl _ _⟩⟩
  | refuse why => intro s e s' _ he; cases he
end Go.Am
