/- Each operation of the abstract machine, against the model's: append, whole. -/
import Derived.Test.YtkdfgoimgcegfaaGreatDoorAmOps8
set_option linter.unusedSectionVars false
set_option linter.unusedSimpArgs false
set_option linter.unusedVariables false
namespace Go.Am
open Go
variable {T : Tab} {P : Program}

theorem run_append_grow (tok : TabOK T P) {ts : Array TypeId} {t : TypeId} {el el2 : TypeId} {i : TypeInfo} {base' : Option Addr} {sLen sCap' n : Nat} {x' z : Value} {o' c' : List Value} {w : World}
    (h0 : underO T ts.toList[0]? = some (.slice el)) (h1 : underO T ts.toList[1]? = some (.slice el2)) (hi : T.info.get el = some i) (hl : ∀ w, (Builtin.lenOf x').run P w = .ok n w) (hroom : ¬ sLen + n ≤ sCap')
    (hb : i.bytes ≤ 65536) (hn : sLen + n ≤ 1073741824) (hz : ∀ w, (zeroValue el).run P w = .ok z w)
    (ho : (Builtin.firstCells i.size sLen (.slice base' sLen sCap')).run P { w with drawn := w.drawn + 1 } = .ok ⟨o'⟩ { w with drawn := w.drawn + 1 })
    (hx : (Builtin.firstCells i.size n x').run P { w with drawn := w.drawn + 1 } = .ok ⟨c'⟩ { w with drawn := w.drawn + 1 }) :
    ∃ newCap, sLen + n ≤ newCap ∧ (Builtin.append_ ts t #[.slice base' sLen sCap', x']).run P w = .ok (.slice (some ⟨w.heap.size, 0, none⟩) (sLen + n) newCap)
      { w with drawn := w.drawn + 1, heap := w.heap.push (.cells ⟨o' ++ (c' ++ (Builtin.zeroCells z.cells (newCap - (sLen + n))).toList)⟩ el (0, 0)) } := by
  cases e0 : ts.toList[0]? with
  | none => rw [e0] at h0; cases h0
  | some t0 =>
    cases e1 : ts.toList[1]? with
    | none => rw [e1] at h1; cases h1
    | some t1 =>
      rw [e0] at h0; rw [e1] at h1
      have g0 : ts[0]? = some t0 := by simpa using e0
      have g1 : ts[1]? = some t1 := by simpa using e1
      have h0 : T.under t0 = some (.slice el) := h0
      have h1 : T.under t1 = some (.slice el2) := h1
      have hs : size T el = some i.size := by unfold size; rw [hi]; rfl
      have hti := run_typeInfo (P := P) (tok.info el i hi)
      refine ⟨(Question.appendCap (sLen + n) sCap' el).cut (w.tape w.drawn (.appendCap (sLen + n) sCap' el)), by simp only [Question.cut]; omega, ?_⟩
      have hcap : ¬ Builtin.nextslicecap (sLen + n) sCap' * i.bytes > 2 ^ 48 := by
        have a := nextslicecap_le (need := sLen + n) (cap := sCap') (by omega)
        have b : Builtin.nextslicecap (sLen + n) sCap' * i.bytes ≤ (2 * 1073741824 + 768) * 65536 := Nat.mul_le_mul (by omega) hb
        omega
      have hbig : ¬ ((((sLen + n : Nat) : Int) > IntKind.i64.max) ∧ (False ∨ i.bytes = 0)) := by
        rintro ⟨q, _⟩
        simp [IntKind.max, IntKind.signed, IntKind.bits] at q
        omega
      simp only [Builtin.append_, g0, List.getElem?_toArray, List.getElem?_cons_zero, List.getElem?_cons_succ, Sem.run_bind, run_under tok h0, Result.andThen_ok, run_size tok hs, g1, run_under tok h1, Sem.run_pure, Bool.false_eq_true,
        if_false, hl, if_neg hroom, hti, if_neg hbig, if_neg hcap, run_choose, Question.forced, run_askRoom, ho, Bool.not_false, if_true, hx, hz, run_newRow]
      have hcat : ∀ z : Array Value, (⟨o'⟩ : Array Value) ++ (⟨c'⟩ : Array Value) ++ z = ⟨o' ++ (c' ++ z.toList)⟩ := fun z => by apply Array.ext'; simp
      rw [hcat]

theorem appendNew_inv {Γ : Ctx} {m : M} {hD : Nat → Option AObj} {hh : H} {w : World} (I : Inv T Γ m hD hh w) {cs cs' rest : List Value} {el : TypeId} {need sz newCap : Nat} (F : Fin Γ (hh.new (.cells cs el true)))
    (hc : LR m cs cs') (hlen : cs.length = need * sz) (hsz : size T el = some sz) (hpos : 0 < sz) (hcap : need ≤ newCap) (hrest : rest.length = (newCap - need) * sz) :
    ∃ m' hD', MLe m m' ∧ VR m' (.slice (some ⟨hh.next, 0, none⟩) need need) (.slice (some ⟨w.heap.size, 0, none⟩) need newCap) ∧
      Inv T Γ m' hD' (hh.new (.cells cs el true)) { w with drawn := w.drawn + 1, heap := w.heap.push (.cells ⟨cs' ++ rest⟩ el (0, 0)) } := by
  have I' : Inv T Γ m hD hh { w with drawn := w.drawn + 1 } := I.world rfl ⟨fun _ => rfl, rfl, rfl, rfl⟩
  obtain ⟨m', hD', k1, k2, k3⟩ := newObj_sound I' (o' := .cells ⟨cs' ++ rest⟩ el (0, 0)) (pl := ⟨w.heap.size, 0, need * sz, (newCap - need) * sz, sz⟩) F rfl (fun m' hm _ => by
    have := OR.cells (T := T) (m := m') (pl := ⟨w.heap.size, 0, need * sz, (newCap - need) * sz, sz⟩) (pre := []) (post := rest) (e := el) (e' := el) (g := true) (hc.mono hm) rfl hlen (Nat.le_of_eq hrest.symm) (fun h => by cases h) hpos (fun _ => hsz)
    simpa using this) (fun _ _ _ h => by injection h with _ _ h; exact h.symm)
  refine ⟨m', hD', k1, VR.slice (off := 0) k2 (.inr ⟨by simp, ?_⟩), k3⟩
  have : newCap * sz = need * sz + (newCap - need) * sz := by rw [← Nat.add_mul]; congr 1; omega
  simpa using this
theorem lenOf_rel {m : M} {x x' : Value} {n : Nat} (e : Am.lenOf x = some n) (h : VR m x x') : ∃ a' c', x' = .slice a' n c' := by
  cases h with
  | slice0 k c => injection e with e; subst e; exact ⟨_, _, rfl⟩
  | slice hm hc => injection e with e; subst e; exact ⟨_, _, rfl⟩
  | empty hm => injection e with e; subst e; exact ⟨_, _, rfl⟩
  | data => injection e with e; subst e; exact ⟨_, _, rfl⟩
  | data0 => injection e with e; subst e; exact ⟨_, _, rfl⟩
  | _ => cases e
theorem VR.len {m : M} {a : Option Addr} {n c : Nat} {x' : Value} (h : VR m (.slice a n c) x') : ∃ a' c', x' = .slice a' n c' := by
  cases h <;> exact ⟨_, _, rfl⟩

set_option maxHeartbeats 1000000 in
/-- To a slice that is known as data. -/
theorem appendData_sound (tok : TabOK T P) {h h' : H} {ts : Array TypeId} {t : TypeId} {el el2 : TypeId} {s' x x' v : Value} {off len n : Nat} {p : Array FieldStep} {es caps : List Value}
    (h0 : underO T ts.toList[0]? = some (.slice el)) (h1 : underO T ts.toList[1]? = some (.slice el2)) (hlx : Am.lenOf x = some n)
    (e : appendDataSz T h el (.func (.via off p len false) ⟨es⟩ ⟨caps⟩) x caps len n (T.info.get el) = .val v h') :
    OpS T P h v h' (fun m => VR m (.func (.via off p len false) ⟨es⟩ ⟨caps⟩) s' ∧ VR m x x') (Builtin.append_ ts t #[s', x']) := by
  cases hi : T.info.get el with
  | none => rw [hi] at e; cases e
  | some i =>
  rw [hi] at e
  obtain ⟨c, e⟩ := cond_val (r := appendDataAt (touchS h x) el i.size (.func (.via off p len false) ⟨es⟩ ⟨caps⟩) caps len n (firstCells h len i.size (.func (.via off p len false) ⟨es⟩ ⟨caps⟩)) (firstCells h n i.size x)) e
  cases hz0 : Nat.beq i.size 0 with
  | true => rw [hz0] at c; cases c
  | false =>
  rw [hz0] at c
  obtain ⟨c1, c⟩ := cond_both c
  obtain ⟨c2, c3⟩ := cond_both c
  have hpos : 0 < i.size := Nat.pos_of_ne_zero (nbeq_false hz0)
  have hbytes := nble_true c1
  have hneed : len + n ≤ 1073741824 := nble_true c2
  cases hzn : zeroN T el with
  | none => rw [hzn] at c3; cases c3
  | some zz =>
  obtain ⟨i2, z, y1, y2, y3, y4, y5, y6⟩ := zeroN_ok tok hzn
  rw [hi] at y1; injection y1 with y1; subst y1
  have hzl : z.cells.size = i.size := by rw [← y4, y3, ← cells_toList]; simp
  have hsz : size T el = some i.size := by unfold size; rw [hi]; rfl
  cases ho : firstCells h len i.size (.func (.via off p len false) ⟨es⟩ ⟨caps⟩) with
  | none => rw [ho] at e; cases e
  | some old =>
  cases hnw : firstCells h n i.size x with
  | none => rw [ho, hnw] at e; cases e
  | some new =>
  rw [ho, hnw] at e
  obtain ⟨c, e⟩ := cond_val (r := onB (appendDataNew (touchS h x) el (Nat.add len n) (appL old new) caps) (.val (.func (.via off p len false) ⟨es⟩ ⟨caps⟩) (touchS h x)) (Nat.beq n 0)) e
  obtain ⟨c1, c⟩ := cond_both c
  obtain ⟨c2, c3⟩ := cond_both c
  have hln : new.length = n * i.size := by rw [← lenL_eq]; exact nbeq_true c1
  have hlo : old.length = len * i.size := by rw [← lenL_eq]; exact nbeq_true c2
  have common : ∀ Γ m hD w, Fin Γ (touchS h x) → Inv T Γ m hD h w → VR m (.func (.via off p len false) ⟨es⟩ ⟨caps⟩) s' → VR m x x' →
      Inv T Γ m hD (touchS h x) w ∧ (∀ w, (Builtin.lenOf x').run P w = .ok n w) ∧
      (∀ w2, w2.heap = w.heap → Same w w2 → ∃ o', (Builtin.firstCells i.size len s').run P w2 = .ok ⟨o'⟩ w2 ∧ LR m old o') ∧
      (∀ w2, w2.heap = w.heap → Same w w2 → ∃ c', (Builtin.firstCells i.size n x').run P w2 = .ok ⟨c'⟩ w2 ∧ LR m new c') := by
    intro Γ m hD w F I xs xx
    have ts2 : ∀ b, slBlk x = some b → Γ.tch b := fun b hb => (touchS_noted h x hb).elim (fun x => (F.hi b x).1) (F.rd b)
    refine ⟨I.touchS _, ?_, fun w2 hw2 hs2 => ?_, fun w2 hw2 hs2 => ?_⟩
    · obtain ⟨a', c', rfl⟩ := lenOf_rel hlx xx
      intro w; rfl
    · exact firstCells_sound (I.world hw2 hs2) ho hlo xs (fun b hb => by cases hb) rfl
    · exact firstCells_sound (I.world hw2 hs2) hnw hln xx ts2 hlx
  cases hn0 : Nat.beq n 0 with
  | true =>
    rw [hn0] at e
    have hn := nbeq_true hn0
    subst hn
    have e : Res.val (.func (.via off p len false) ⟨es⟩ ⟨caps⟩) (touchS h x) = .val v h' := e
    injection e with e1 e2; subst e1; subst e2
    refine ⟨touchS_le h x, fun Γ m hD w F I ⟨xs, xx⟩ => ?_⟩
    obtain ⟨I1, q2, q3, q4⟩ := common Γ m hD w F I xs xx
    obtain ⟨d', k3, k4⟩ := q4 w rfl (.refl w)
    have hd : d' = [] := List.eq_nil_of_length_eq_zero (by rw [k4.length, hln]; simp)
    subst hd
    obtain ⟨b', c', rfl, hle⟩ : ∃ b' c', s' = .slice b' len c' ∧ len ≤ c' := by
      cases xs with
      | data hi h hs hl hc hk => exact ⟨_, _, rfl, hc⟩
      | data0 ha hk => exact ⟨_, _, rfl, Nat.zero_le _⟩
    have hrun := run_append_room (P := P) (t := t) (base' := b') (w := w) (w' := w) (n := 0) (sCap' := c') tok h0 h1 hsz q2 hle k3 (fun a _ => by simp [storeCells]) (fun _ => rfl)
    exact ⟨_, m, hD, w, hrun, .refl _, xs, I1⟩
  | false =>
    rw [hn0] at e
    have hn := nbeq_false hn0
    have e : appendDataNew (touchS h x) el (Nat.add len n) (appL old new) caps = .val v h' := e
    obtain ⟨kk, cc, rfl⟩ : ∃ kk cc, caps = [.int kk (.ofNat cc)] := by
      rcases caps with _ | ⟨cv, _ | ⟨cv2, cl⟩⟩
      · cases e
      · cases cv with
        | int kk ci =>
          cases ci with
          | ofNat cc => exact ⟨kk, cc, rfl⟩
          | negSucc cc => cases e
        | _ => cases e
      · cases cv with
        | int kk ci => cases ci <;> cases e
        | _ => cases e
    have e : cond (Nat.ble (Nat.add len n) cc) .fail (appendNew (touchS h x) el (Nat.add len n) (appL old new)) = .val v h' := e
    cases hroom : Nat.ble (Nat.add len n) cc with
    | true => rw [hroom] at e; cases e
    | false =>
    rw [hroom] at e
    have hroom : cc < len + n := nble_false hroom
    rw [appL_eq] at e
    have e : Res.val (.slice (some ⟨(touchS h x).next, 0, none⟩) (len + n) (len + n)) ((touchS h x).new (.cells (old ++ new) el true)) = .val v h' := e
    injection e with e1 e2
    have hle2 : Le (touchS h x) h' := by rw [← e2]; exact new_le _ _
    refine ⟨(touchS_le h x).trans hle2, fun Γ m hD w F I ⟨xs, xx⟩ => ?_⟩
    obtain ⟨I1, q2, q3, q4⟩ := common Γ m hD w (F.of_le hle2) I xs xx
    obtain ⟨o', k1, k2⟩ := q3 { w with drawn := w.drawn + 1 } rfl ⟨fun _ => rfl, rfl, rfl, rfl⟩
    obtain ⟨d', k3, k4⟩ := q4 { w with drawn := w.drawn + 1 } rfl ⟨fun _ => rfl, rfl, rfl, rfl⟩
    obtain ⟨b', c', rfl, hcc⟩ : ∃ b' c', s' = .slice b' len c' ∧ c' = cc := by
      cases xs with
      | data hi h hs hl hc hk =>
        refine ⟨_, _, rfl, ?_⟩
        rcases hk with hk | hk
        · cases hk
        · injection hk with hk; injection hk with _ hk; injection hk with hk; exact hk.symm
      | data0 ha hk =>
        refine ⟨_, _, rfl, ?_⟩
        rcases hk with hk | hk | hk
        · cases hk
        · injection hk with hk; injection hk with _ hk; injection hk with hk; exact hk.symm
        · injection hk with hk; cases hk
    obtain ⟨newCap, k5, k6⟩ := run_append_grow (P := P) (t := t) tok h0 h1 hi q2 (by omega) hbytes hneed y6 k1 k3
    obtain ⟨m', hD', j1, j2, j3⟩ := appendNew_inv (rest := (Builtin.zeroCells z.cells (newCap - (len + n))).toList) I1 (by rw [e2]; exact F) (k2.append k4) (by rw [List.length_append, hlo, hln, Nat.add_mul]) hsz hpos k5 (by rw [zeroCells_length, hzl])
    rw [List.append_assoc] at j3
    exact ⟨_, m', hD', _, k6, j1, by rw [← e1]; exact j2, by rw [← e2]; exact j3⟩

set_option maxHeartbeats 1000000 in
theorem appendOf_sound (tok : TabOK T P) {h h' : H} {ts : Array TypeId} {t : TypeId} {s s' x x' v : Value}
    (e : appendOf T h x (underO T ts.toList[0]?) (underO T ts.toList[1]?) s (Am.lenOf x) = .val v h') : OpS T P h v h' (fun m => VR m s s' ∧ VR m x x') (Builtin.append_ ts t #[s', x']) := by
  unfold appendOf at e
  split at e
  case h_4 => cases e
  case h_3 =>
    rename_i h0 h1 hlx
    exact appendZeros_sound tok h0 h1 e
  case h_2 =>
    rename_i h0 h1 hlx
    exact appendData_sound tok h0 h1 hlx e
  rename_i el el2 base sLen sCap n h0 h1 hlx
  cases hi : T.info.get el with
  | none => rw [hi] at e; cases e
  | some i =>
  rw [hi] at e
  obtain ⟨c, e⟩ := cond_val (r := appendAt T (touchS (touchS h (.slice base sLen sCap)) x) el i.size base sLen sCap n (firstCells h sLen i.size (.slice base sLen sCap)) (firstCells h n i.size x)) e
  cases hz0 : Nat.beq i.size 0 with
  | true => rw [hz0] at c; cases c
  | false =>
  rw [hz0] at c
  obtain ⟨c1, c⟩ := cond_both c
  obtain ⟨c2, c3⟩ := cond_both c
  have hpos : 0 < i.size := Nat.pos_of_ne_zero (nbeq_false hz0)
  have hbytes := nble_true c1
  have hneed : sLen + n ≤ 1073741824 := nble_true c2
  cases hzn : zeroN T el with
  | none => rw [hzn] at c3; cases c3
  | some zz =>
  obtain ⟨i2, z, y1, y2, y3, y4, y5, y6⟩ := zeroN_ok tok hzn
  rw [hi] at y1; injection y1 with y1; subst y1
  have hzl : z.cells.size = i.size := by rw [← y4, y3, ← cells_toList]; simp
  have hsz : size T el = some i.size := by unfold size; rw [hi]; rfl
  cases ho : firstCells h sLen i.size (.slice base sLen sCap) with
  | none => rw [ho] at e; cases e
  | some old =>
  cases hnw : firstCells h n i.size x with
  | none => rw [ho, hnw] at e; cases e
  | some new =>
  rw [ho, hnw] at e
  obtain ⟨c, e⟩ := cond_val (r := appendBase T (touchS (touchS h (.slice base sLen sCap)) x) el i.size sLen sCap n old new base) e
  obtain ⟨c1, c⟩ := cond_both c
  obtain ⟨c2, c3⟩ := cond_both c
  have hln : new.length = n * i.size := by rw [← lenL_eq]; exact nbeq_true c1
  have hlo : old.length = sLen * i.size := by rw [← lenL_eq]; exact nbeq_true c2
  have hone := oneCells_eq c3
  generalize hh1 : touchS (touchS h (.slice base sLen sCap)) x = h1v at e
  have hle1 : Le h h1v := by rw [← hh1]; exact (touchS_le _ _).trans (touchS_le _ _)
  have hget : ∀ b, h1v.get b = h.get b := fun b => by rw [← hh1, touchS_get, touchS_get]
  -- what every way shares
  have common : ∀ Γ m hD w, Fin Γ h1v → Inv T Γ m hD h w → VR m (.slice base sLen sCap) s' → VR m x x' →
      Inv T Γ m hD h1v w ∧ (∀ b, slBlk (.slice base sLen sCap) = some b → Γ.tch b) ∧ (∀ w, (Builtin.lenOf x').run P w = .ok n w) ∧
      (∀ w2, w2.heap = w.heap → Same w w2 → ∃ o', (Builtin.firstCells i.size sLen s').run P w2 = .ok ⟨o'⟩ w2 ∧ LR m old o') ∧
      (∀ w2, w2.heap = w.heap → Same w w2 → ∃ c', (Builtin.firstCells i.size n x').run P w2 = .ok ⟨c'⟩ w2 ∧ LR m new c') := by
    intro Γ m hD w F I xs xx
    have F0 : Fin Γ (touchS h (.slice base sLen sCap)) := by rw [← hh1] at F; exact F.of_le (touchS_le _ _)
    have ts1 : ∀ b, slBlk (.slice base sLen sCap) = some b → Γ.tch b := fun b hb => (touchS_noted h _ hb).elim (fun x => (F0.hi b x).1) (F0.rd b)
    have ts2 : ∀ b, slBlk x = some b → Γ.tch b := fun b hb => by
      have := touchS_noted (touchS h (.slice base sLen sCap)) x hb
      rw [hh1] at this
      exact this.elim (fun x => (F.hi b x).1) (F.rd b)
    refine ⟨by rw [← hh1]; exact (I.touchS _).touchS _, ts1, ?_, fun w2 hw2 hs2 => ?_, fun w2 hw2 hs2 => ?_⟩
    · obtain ⟨a', c', rfl⟩ := lenOf_rel hlx xx
      intro w; rfl
    · exact firstCells_sound (I.world hw2 hs2) ho hlo xs ts1 rfl
    · exact firstCells_sound (I.world hw2 hs2) hnw hln xx ts2 hlx
  -- a new row
  have fresh : ∀ (hh : H) (hv : v = .slice (some ⟨hh.next, 0, none⟩) (sLen + n) (sLen + n)) (hq : h' = hh.new (.cells (old ++ new) el true)) (Γ : Ctx) (m : M) (hD hD1 : Nat → Option AObj) (w : World), Fin Γ h' → Le h1v h' → Inv T Γ m hD h w → Inv T Γ m hD1 hh w →
      VR m (.slice base sLen sCap) s' → VR m x x' → (∀ b' c', s' = .slice b' sLen c' → ¬ sLen + n ≤ c') →
      ∃ v' m' hD' w', (Builtin.append_ ts t #[s', x']).run P w = .ok v' w' ∧ MLe m m' ∧ VR m' v v' ∧ Inv T Γ m' hD' h' w' := by
    intro hh hv hq Γ m hD hD1 w F hle I I1 xs xx hno
    obtain ⟨_, _, q3, q4, q5⟩ := common Γ m hD w (F.of_le hle) I xs xx
    obtain ⟨b', c', rfl⟩ := xs.len
    obtain ⟨o', k1, k2⟩ := q4 { w with drawn := w.drawn + 1 } rfl ⟨fun _ => rfl, rfl, rfl, rfl⟩
    obtain ⟨d', k3, k4⟩ := q5 { w with drawn := w.drawn + 1 } rfl ⟨fun _ => rfl, rfl, rfl, rfl⟩
    obtain ⟨newCap, k5, k6⟩ := run_append_grow (P := P) (t := t) tok h0 h1 hi q3 (hno b' c' rfl) hbytes hneed y6 k1 k3
    subst hq
    obtain ⟨m', hD', j1, j2, j3⟩ := appendNew_inv (rest := (Builtin.zeroCells z.cells (newCap - (sLen + n))).toList) I1 F (k2.append k4) (by rw [List.length_append, hlo, hln, Nat.add_mul]) hsz hpos k5 (by rw [zeroCells_length, hzl])
    rw [List.append_assoc] at j3
    exact ⟨_, m', hD', _, k6, j1, by rw [hv]; exact j2, j3⟩
  rcases base with _ | ⟨b, off, _ | sp⟩
  · -- nil
    obtain ⟨c, eB⟩ := cond_val (r := onB (appendNew h1v el n new) (.val (.slice none 0 0) h1v) (Nat.beq n 0)) e
    obtain ⟨c1, c2⟩ := cond_both c
    have e1 := nbeq_true c1
    have e2 := nbeq_true c2
    subst e1; subst e2
    cases hb : Nat.beq n 0 with
    | true =>
      rw [hb] at eB
      have hn0 := nbeq_true hb
      subst hn0
      have e : Res.val (.slice none 0 0) h1v = .val v h' := eB
      injection e with e1 e2; subst e1; subst e2
      refine ⟨hle1, fun Γ m hD w F I ⟨xs, xx⟩ => ?_⟩
      obtain ⟨I1, _, q3, _, q5⟩ := common Γ m hD w F I xs xx
      cases xs
      obtain ⟨d', k3, k4⟩ := q5 w rfl (.refl w)
      exact ⟨_, m, hD, w, run_append_room (t := t) tok h0 h1 hsz q3 (Nat.le_refl _) k3 (fun a ha => by cases ha) (fun _ => rfl), .refl _, .slice0 0 0, I1⟩
    | false =>
      rw [hb] at eB
      have hn0 := nbeq_false hb
      have e : Res.val (.slice (some ⟨h1v.next, 0, none⟩) n n) (h1v.new (.cells new el true)) = .val v h' := eB
      injection e with e1 e2
      have hold : old = [] := List.eq_nil_of_length_eq_zero (by rw [hlo]; simp)
      subst hold
      have hle2 : Le h1v h' := by rw [← e2]; exact new_le _ _
      refine ⟨hle1.trans hle2, fun Γ m hD w F I ⟨xs, xx⟩ => ?_⟩
      obtain ⟨I1, _⟩ := common Γ m hD w (F.of_le hle2) I xs xx
      refine fresh h1v (by rw [← e1]; simp) (by rw [← e2]; simp) Γ m hD hD w F hle2 I I1 xs xx (fun b' c' hq => ?_)
      cases xs
      injection hq with _ _ hq
      omega
  · -- a row
    have e : appendRow T h1v b off el i.size sLen sCap n old new (h1v.get b) = .val v h' := e
    rw [hget] at e
    cases hg : h.get b with
    | none => rw [hg] at e; cases e
    | some o =>
    rw [hg] at e
    cases o with
    | cells c e' g =>
      have hg1 : h1v.get b = some (.cells c e' g) := by rw [hget]; exact hg
      have e : onB (appendOut T h1v b el i.size (Nat.add sLen n) (Nat.add off (Nat.mul sCap i.size)) (appL old new) c e' g)
        (onB (appendIn h1v b off (Nat.add sLen n) sCap e' g (splice (Nat.add off (Nat.mul sLen i.size)) new c)) (.val (.slice (some ⟨b, off, none⟩) sLen sCap) h1v) (Nat.beq n 0))
        (Nat.ble (Nat.add sLen n) sCap) = .val v h' := e
      cases hb : Nat.ble (Nat.add sLen n) sCap with
      | true =>
        rw [hb] at e
        have hroom : sLen + n ≤ sCap := nble_true hb
        cases hn : Nat.beq n 0 with
        | true =>
          rw [hn] at e
          have hn0 := nbeq_true hn
          subst hn0
          have e : Res.val (.slice (some ⟨b, off, none⟩) sLen sCap) h1v = .val v h' := e
          injection e with e1 e2; subst e1; subst e2
          refine ⟨hle1, fun Γ m hD w F I ⟨xs, xx⟩ => ?_⟩
          obtain ⟨I1, q2, q3, _, q5⟩ := common Γ m hD w F I xs xx
          obtain ⟨d', k3, k4⟩ := q5 w rfl (.refl w)
          have hd' : d' = [] := List.eq_nil_of_length_eq_zero (by rw [k4.length, hln]; simp)
          subst hd'
          have xs0 := xs
          rcases xs.slice_inv with ⟨pl, cap', hm, hc, rfl⟩ | ⟨h4, h5, pl, a, hm, rfl⟩
          · obtain ⟨_, _, _, _, R⟩ := I.row hm hg (q2 b rfl)
            have := hc.le R.pos
            exact ⟨_, m, hD, w, run_append_room (t := t) tok h0 h1 hsz q3 (by omega) k3 (fun a ha => rfl) (fun ha => by cases ha), .refl _, xs0, I1⟩
          · subst h4; subst h5
            exact ⟨_, m, hD, w, run_append_room (t := t) tok h0 h1 hsz q3 (Nat.le_refl _) k3 (fun a ha => rfl) (fun ha => by cases ha), .refl _, xs0, I1⟩
        | false =>
          rw [hn] at e
          have hn0 := nbeq_false hn
          cases hsp : splice (Nat.add off (Nat.mul sLen i.size)) new c with
          | none => rw [hsp] at e; cases e
          | some d =>
            rw [hsp] at e
            have e : Res.val (.slice (some ⟨b, off, none⟩) (sLen + n) sCap) (h1v.put b (.cells d e' g)) = .val v h' := e
            injection e with e1 e2; subst e1; subst e2
            refine ⟨hle1.trans (put_le _ _ _ hg1), fun Γ m hD w F I ⟨xs, xx⟩ => ?_⟩
            obtain ⟨I1, q2, q3, _, q5⟩ := common Γ m hD w (F.of_le (put_le _ _ _ hg1)) I xs xx
            obtain ⟨d', k3, k4⟩ := q5 w rfl (.refl w)
            rcases xs.slice_inv with ⟨pl, cap', hm, hc, rfl⟩ | ⟨h4, h5, pl, a, hm, rfl⟩
            · obtain ⟨_, _, _, _, R⟩ := I.row hm hg (q2 b rfl)
              have hcl := hc.le R.pos
              obtain ⟨w', hD', s1, s2⟩ := storeCells_sound (P := P) I1 hm hg1 hsp k4 hone F
              refine ⟨_, m, hD', w', run_append_room (t := t) (w' := w') tok h0 h1 hsz q3 (by omega) k3 (fun a ha => ?_) (fun ha => by cases ha), .refl _, .slice hm hc, s2⟩
              injection ha with ha
              subst ha
              rw [addr_add, Nat.add_assoc]
              exact s1
            · omega
      | false =>
        rw [hb] at e
        have hroom : sCap < sLen + n := nble_false hb
        have e : appendOut T h1v b el i.size (sLen + n) (off + sCap * i.size) (appL old new) c e' g = .val v h' := e
        rw [appL_eq] at e
        cases g with
        | false =>
          have e : Res.val (.slice (some ⟨h1v.next, 0, none⟩) (sLen + n) (sLen + n)) (h1v.new (.cells (old ++ new) el true)) = .val v h' := e
          injection e with e1 e2
          have hle2 : Le h1v h' := by rw [← e2]; exact new_le _ _
          refine ⟨hle1.trans hle2, fun Γ m hD w F I ⟨xs, xx⟩ => ?_⟩
          obtain ⟨I1, q2, _⟩ := common Γ m hD w (F.of_le hle2) I xs xx
          refine fresh h1v e1.symm e2.symm Γ m hD hD w F hle2 I I1 xs xx (fun b' c' hq => ?_)
          rcases xs.slice_inv with ⟨pl, cap', hm, hc, rfl⟩ | ⟨h4, h5, pl, a, hm, rfl⟩
          · obtain ⟨_, _, _, _, R⟩ := I.row hm hg (q2 b rfl)
            injection hq with _ _ hq
            have := hc.tight R.pos (R.tight rfl)
            omega
          · injection hq with _ _ hq; omega
        | true =>
          have e : cond (sameSize (size T e') (some i.size)) (onB (appendNew h1v el (sLen + n) (old ++ new)) (appendNew (h1v.drop b) el (sLen + n) (old ++ new)) (Nat.beq (off + sCap * i.size) (lenL c))) .fail = .val v h' := e
          obtain ⟨hss, e⟩ := cond_val e
          obtain ⟨sz2, r1, r2⟩ := sameSize_true hss
          injection r2 with r2; subst r2
          cases hfin : Nat.beq (off + sCap * i.size) (lenL c) with
          | false =>
            rw [hfin] at e
            have hfin' := nbeq_false hfin
            rw [lenL_eq] at hfin'
            have e : Res.val (.slice (some ⟨h1v.next, 0, none⟩) (sLen + n) (sLen + n)) (h1v.new (.cells (old ++ new) el true)) = .val v h' := e
            injection e with e1 e2
            have hle2 : Le h1v h' := by rw [← e2]; exact new_le _ _
            refine ⟨hle1.trans hle2, fun Γ m hD w F I ⟨xs, xx⟩ => ?_⟩
            obtain ⟨I1, q2, _⟩ := common Γ m hD w (F.of_le hle2) I xs xx
            refine fresh h1v e1.symm e2.symm Γ m hD hD w F hle2 I I1 xs xx (fun b' c' hq => ?_)
            rcases xs.slice_inv with ⟨pl, cap', hm, hc, rfl⟩ | ⟨h4, h5, pl, a, hm, rfl⟩
            · obtain ⟨_, _, _, _, R⟩ := I.row hm hg (q2 b rfl)
              injection hq with _ _ hq
              have hps : pl.sz = i.size := by have := R.sz rfl; rw [r1] at this; injection this with this; exact this.symm
              rcases hc with hc | ⟨hc, _⟩
              · omega
              · rw [hps, ← R.klen] at hc; omega
            · injection hq with _ _ hq; omega
          | true =>
            rw [hfin] at e
            have hfin' := nbeq_true hfin
            rw [lenL_eq] at hfin'
            have e : Res.val (.slice (some ⟨(h1v.drop b).next, 0, none⟩) (sLen + n) (sLen + n)) ((h1v.drop b).new (.cells (old ++ new) el true)) = .val v h' := e
            injection e with e1 e2
            have hle2 : Le h1v h' := by rw [← e2]; exact (drop_le _ _).trans (new_le _ _)
            refine ⟨hle1.trans hle2, fun Γ m hD w F I ⟨xs, xx⟩ => ?_⟩
            obtain ⟨I1, q2, q3, q4, q5⟩ := common Γ m hD w (F.of_le hle2) I xs xx
            have grow : (∀ b' c', s' = .slice b' sLen c' → ¬ sLen + n ≤ c') → ∃ v' m' hD' w', (Builtin.append_ ts t #[s', x']).run P w = .ok v' w' ∧ MLe m m' ∧ VR m' v v' ∧ Inv T Γ m' hD' h' w' := fun hno => by
              have I2 := I1.drop (b := b) (by rw [← e2] at F; exact F.of_le (new_le _ _)) hg1
              exact fresh (h1v.drop b) e1.symm e2.symm Γ m hD _ w F hle2 I I2 xs xx hno
            have xs0 := xs
            rcases xs.slice_inv with ⟨pl, cap', hm, hc, rfl⟩ | ⟨h4, h5, pl, a, hm, rfl⟩
            · by_cases hin : sLen + n ≤ cap'
              · obtain ⟨c', pre, post, e'', R⟩ := I.row hm hg (q2 b rfl)
                have hps : pl.sz = i.size := by have := R.sz rfl; rw [r1] at this; injection this with this; exact this.symm
                have hcr : off + cap' * i.size = pl.klen + pl.ext := by
                  rcases hc with hc | ⟨_, hc⟩
                  · omega
                  · rw [hps] at hc; exact hc
                obtain ⟨o', k1, k2⟩ := q4 w rfl (.refl w)
                obtain ⟨d', k3, k4⟩ := q5 w rfl (.refl w)
                -- the old cells, as they lie in the row
                have hcut : old = (c.drop off).take (sLen * i.size) ∧ sLen * i.size ≤ (c.drop off).length := by
                  have hq : rowCells off (Nat.mul sLen i.size) (blockCells (h.get b)) = some old := ho
                  rw [hg] at hq
                  have hq : cut c off (sLen * i.size) = some old := hq
                  obtain ⟨a1, a2⟩ := cut_eq hq
                  exact ⟨a2, a1⟩
                have hlc := R.rel.length
                have hklen := R.klen
                have hext := R.ext
                have hd1 : d'.length = n * i.size := by rw [k4.length, hln]
                have hcl : sLen * i.size + off ≤ c.length := by
                  have := hcut.2
                  rw [List.length_drop] at this
                  by_cases hoff : off ≤ c.length
                  · omega
                  · omega
                have hmul : (sLen + n) * i.size = sLen * i.size + n * i.size := Nat.add_mul _ _ _
                have hmul2 : (sLen + n) * i.size ≤ cap' * i.size := Nat.mul_le_mul_right _ hin
                have hst := run_storeCells_at P pl.blk (pl.sh + off + sLen * i.size) e'' d' 0 ⟨pre ++ (c' ++ post)⟩ w R.heap (by simp [R.pre]; omega) (k4.oneCell hone)
                have hoff : off ≤ c'.length := by omega
                have L1 : (pre ++ (c' ++ post)).take (pl.sh + off + sLen * i.size + 0) = (pre ++ c'.take off) ++ (c'.drop off).take (sLen * i.size) := by
                  rw [Nat.add_zero, Nat.add_assoc, ← R.pre, List.take_length_add_append, List.take_append_of_le_length (by omega), List.take_add, List.append_assoc]
                have L2 : (pre ++ (c' ++ post)).drop (pl.sh + off + sLen * i.size + 0 + d'.length) = (c' ++ post).drop (off + sLen * i.size + d'.length) := by
                  rw [Nat.add_zero, show pl.sh + off + sLen * i.size + d'.length = pl.sh + (off + sLen * i.size + d'.length) from by omega, ← R.pre, List.drop_length_add_append]
                rw [L1, L2] at hst
                have L3 : (pre ++ c'.take off ++ (c'.drop off).take (sLen * i.size) ++ d' ++ (c' ++ post).drop (off + sLen * i.size + d'.length)) = (pre ++ c'.take off) ++ (((c'.drop off).take (sLen * i.size) ++ d') ++ (c' ++ post).drop (off + sLen * i.size + d'.length)) := by simp
                rw [L3] at hst
                obtain ⟨s1, s2, s3, s4⟩ := setRow_same w (c2 := ((pre ++ c'.take off) ++ (((c'.drop off).take (sLen * i.size) ++ d') ++ (c' ++ post).drop (off + sLen * i.size + d'.length))).toArray) R.heap
                have hbig : (cap' - (sLen + n)) * i.size + (sLen + n) * i.size = cap' * i.size := by rw [← Nat.add_mul]; congr 1; omega
                have hFn : Fin Γ ((h1v.drop b).new (.cells (old ++ new) el true)) := by rw [e2]; exact F
                have hmn : m h1v.next = none := (I1.fresh h1v.next (Nat.le_refl _) (by have := hFn.next; rw [new_next, drop_next] at this; omega)).1
                have hmle : MLe m (m.upd h1v.next (some ⟨pl.blk, pl.sh + off, (sLen + n) * i.size, (cap' - (sLen + n)) * i.size, i.size⟩)) := M.le_upd hmn
                have hO2 : OR T (m.upd h1v.next (some ⟨pl.blk, pl.sh + off, (sLen + n) * i.size, (cap' - (sLen + n)) * i.size, i.size⟩)) ⟨pl.blk, pl.sh + off, (sLen + n) * i.size, (cap' - (sLen + n)) * i.size, i.size⟩ (.cells (old ++ new) el true)
                    (.cells ⟨(pre ++ c'.take off) ++ (((c'.drop off).take (sLen * i.size) ++ d') ++ (c' ++ post).drop (off + sLen * i.size + d'.length))⟩ e'' (0, 0)) := by
                  refine OR.cells (LR.append ?_ (k4.mono hmle)) ?_ ?_ ?_ (fun h => by cases h) hpos (fun _ => hsz)
                  · rw [hcut.1]; exact ((R.rel.drop off).take _).mono hmle
                  · simp [R.pre]; omega
                  · rw [List.length_append, hlo, hln]; exact hmul.symm
                  · show (cap' - (sLen + n)) * i.size ≤ ((c' ++ post).drop (off + sLen * i.size + d'.length)).length
                    rw [List.length_drop, List.length_append]; omega
                obtain ⟨j1, hD', j2⟩ := I1.regrow (pl2 := ⟨pl.blk, pl.sh + off, (sLen + n) * i.size, (cap' - (sLen + n)) * i.size, i.size⟩) hFn hm hg1 rfl hO2 s1 s2 s3 s4
                refine ⟨_, _, hD', _, run_append_room (t := t) (w' := _) tok h0 h1 hsz q3 hin k3 (fun a ha => ?_) (fun ha => by cases ha), j1, ?_, by rw [← e2]; exact j2⟩
                · injection ha with ha
                  subst ha
                  rw [addr_add]
                  exact hst
                · rw [← e1, drop_next]
                  exact VR.slice (off := 0) (cap := sLen + n) (cap' := cap') (pl := ⟨pl.blk, pl.sh + off, (sLen + n) * i.size, (cap' - (sLen + n)) * i.size, i.size⟩) (M.upd_eq _ _ _) (.inr ⟨by simp, by show 0 + cap' * i.size = (sLen + n) * i.size + (cap' - (sLen + n)) * i.size; omega⟩)
              · exact grow (fun b' c' hq => by injection hq with _ _ hq; omega)
            · exact grow (fun b' c' hq => by injection hq with _ _ hq; omega)
    | _ => cases e
  · cases e
end Go.Am
/- Each operation of the abstract machine, against the model's: assertions, built-in functions. -/
namespace Go.Am
open Go
variable {T : Tab} {P : Program}

theorem assertMiss_val {h h' : H} {ok : Bool} {o : Option Value} {v : Value} (e : assertMiss h ok o = .val v h') : ok = true ∧ h' = h ∧ ∃ z, o = some z ∧ v = .tuple #[z, .bool false] := by
  cases o with
  | none => cases e
  | some z =>
    obtain ⟨c, e⟩ := cond_val (r := Res.val (.tuple #[z, .bool false]) h) e
    injection e with e1 e2
    exact ⟨c, e2.symm, z, rfl, e1.symm⟩
theorem assertOf_sound (tok : TabOK T P) {h h' : H} {t xt : TypeId} {ok : Bool} {x x' v : Value} (e : assertOf T h t ok (T.under t) (some x) = .val v h') :
    OpS T P h v h' (fun m => VR m x x') (Instr.typeAssert x' xt t ok) := by
  have miss : ∀ {z : Value}, zero T t = some z → ∀ (m : M) (s d : Option TypeId) (mm : String), VR m (.tuple #[z, .bool false]) (.tuple #[z, .bool false]) := fun hz m _ _ _ =>
    .tuple (.cons (VR.refl_deep m (zero_ok tok hz).1) (.cons (.bool _) .nil))
  cases hu : T.under t with
  | none => rw [hu] at e; cases e
  | some d =>
    rw [hu] at e
    unfold assertOf at e
    split at e
    · rename_i want u y h1 h2
      injection h1 with h1; subst h1
      injection h2 with h2; subst h2
      cases hi : T.info.get u with
      | none => rw [hi] at e; cases e
      | some ui =>
        rw [hi] at e
        have hti := run_typeInfo (P := P) (tok.info u ui hi)
        have e : (match Instr.missingMethod want ui.methods with | none => assertHit h ok (.iface u y) | some _ => assertMiss h ok (zero T t)) = .val v h' := e
        cases hm : Instr.missingMethod want ui.methods with
        | none =>
          simp only [hm] at e
          injection e with e1 e2; subst e1; subst e2
          refine OpS.quiet fun m xx => ?_
          cases xx with
          | @iface _ _ y' hy =>
            refine ⟨cond ok (.tuple #[.iface u y', .bool true]) (.iface u y'), ?_, fun w => by cases ok <;> simp [Instr.typeAssert, run_under tok hu, hti, hm]⟩
            cases ok
            · exact .iface u hy
            · exact .tuple (.cons (.iface u hy) (.cons (.bool _) .nil))
        | some mm =>
          simp only [hm] at e
          obtain ⟨rfl, rfl, z, hz, rfl⟩ := assertMiss_val e
          refine OpS.quiet fun m xx => ?_
          cases xx with
          | iface _ hy =>
            exact ⟨_, miss hz m none none "", fun w => by simp [Instr.typeAssert, run_under tok hu, hti, hm, (zero_ok tok hz).2]⟩
    · rename_i d2 h1 h2
      injection h1 with h1; subst h1
      injection h2 with h2; subst h2
      obtain ⟨rfl, rfl, z, hz, rfl⟩ := assertMiss_val e
      refine OpS.quiet fun m xx => ?_
      cases xx
      exact ⟨_, miss hz m none none "", fun w => by cases d <;> simp [Instr.typeAssert, run_under tok hu, (zero_ok tok hz).2]⟩
    · rename_i d2 u y hni h1 h2
      injection h1 with h1; subst h1
      injection h2 with h2; subst h2
      have hnotI : ∀ ms, d ≠ .interface ms := fun ms hd => hni ms hd
      cases hb : Nat.beq u t with
      | true =>
        rw [hb] at e
        have hut := nbeq_true hb
        subst hut
        injection e with e1 e2; subst e1; subst e2
        refine OpS.quiet fun m xx => ?_
        cases xx with
        | @iface _ _ y' hy =>
          refine ⟨cond ok (.tuple #[y', .bool true]) y', ?_, fun w => by cases d <;> first | exact absurd rfl (hnotI _) | (cases ok <;> simp [Instr.typeAssert, run_under tok hu])⟩
          cases ok
          · exact hy
          · exact .tuple (.cons hy (.cons (.bool _) .nil))
      | false =>
        rw [hb] at e
        have hut := nbeq_false hb
        obtain ⟨rfl, rfl, z, hz, rfl⟩ := assertMiss_val e
        refine OpS.quiet fun m xx => ?_
        cases xx with
        | iface _ hy =>
          exact ⟨_, miss hz m none none "", fun w => by cases d <;> first | exact absurd rfl (hnotI _) | simp [Instr.typeAssert, run_under tok hu, hut, (zero_ok tok hz).2]⟩
    · cases e

/-! ### Built-in functions -/
theorem underO_some {ts : Array TypeId} {i : Nat} {d : TypeDesc} (e : underO T ts.toList[i]? = some d) : ∃ t, ts[i]? = some t ∧ T.under t = some d := by
  cases h : ts.toList[i]? with
  | none => rw [h] at e; cases e
  | some t => rw [h] at e; exact ⟨t, by simpa using h, e⟩
theorem lenBy_sound (tok : TabOK T P) {h h' : H} {ts : Array TypeId} {t : TypeId} {x x' v : Value} (e : lenBy h (underO T ts.toList[0]?) x = .val v h') : OpS T P h v h' (fun m => VR m x x') (Builtin.len_ ts t #[x']) := by
  cases hd : underO T ts.toList[0]? with
  | none => rw [hd] at e; cases e
  | some d =>
    rw [hd] at e
    obtain ⟨t0, h0, hu⟩ := underO_some hd
    unfold lenBy at e
    split at e
    · rename_i el a n c h1
      injection h1 with h1; subst h1
      injection e with e1 e2; subst e1; subst e2
      refine OpS.quiet fun m xx => ?_
      obtain ⟨a', c', rfl⟩ := xx.len
      exact ⟨_, .int _ _, fun w => by simp [Builtin.len_, h0, run_under tok hu, goInt]⟩
    · rename_i s h1
      injection h1 with h1; subst h1
      injection e with e1 e2; subst e1; subst e2
      refine OpS.quiet fun m xx => ?_
      cases xx
      exact ⟨_, .int _ _, fun w => by simp [Builtin.len_, h0, run_under tok hu, goInt]⟩
    · rename_i a b h1
      injection h1 with h1; subst h1
      injection e with e1 e2; subst e1; subst e2
      refine OpS.quiet fun m xx => ?_
      cases xx
      exact ⟨_, .int _ _, fun w => by simp [Builtin.len_, h0, run_under tok hu, goInt]⟩
    · rename_i a b r h1
      injection h1 with h1; subst h1
      cases hb : h.get r with
      | none => rw [hb] at e; cases e
      | some o =>
        rw [hb] at e
        cases o with
        | map es clk =>
          have e : Res.val (.int .i64 es.size) (h.touch r) = .val v h' := e
          injection e with e1 e2; subst e1; subst e2
          refine ⟨touch_le h r, fun Γ m hD w F I xx => ?_⟩
          have ht : Γ.tch r := (touch_noted h r).elim (fun x => (F.hi r x).1) (F.rd r)
          cases xx with
          | map hm =>
            obtain ⟨_, o', ho, hO⟩ := I.get hm hb ht
            cases hO with
            | @map es1 es2 _ hE =>
              refine ⟨.int .i64 (es2.length : Int), m, hD, w, by simp [Builtin.len_, h0, run_under tok hu, run_getObj (P := P) ho rfl, goInt], .refl _, ?_, I.touch r⟩
              show VR m (.int .i64 (es1.length : Int)) (.int .i64 (es2.length : Int))
              rw [hE.length]
              exact .int _ _
        | _ => cases e
    · rename_i el n h1
      injection h1 with h1; subst h1
      injection e with e1 e2; subst e1; subst e2
      refine OpS.quiet fun m xx => ?_
      obtain ⟨a', c', rfl⟩ := lenOf_rel rfl xx
      exact ⟨_, .int _ _, fun w => by simp [Builtin.len_, h0, run_under tok hu, goInt]⟩
    · cases e
theorem capBy_sound (tok : TabOK T P) {h h' : H} {ts : Array TypeId} {t : TypeId} {x x' v : Value} (e : capBy h (underO T ts.toList[0]?) x = .val v h') : OpS T P h v h' (fun m => VR m x x') (Builtin.cap_ ts t #[x']) := by
  cases hd : underO T ts.toList[0]? with
  | none => rw [hd] at e; cases e
  | some d =>
    rw [hd] at e
    obtain ⟨t0, h0, hu⟩ := underO_some hd
    unfold capBy at e
    split at e
    · rename_i el n c h1
      injection h1 with h1; subst h1
      injection e with e1 e2; subst e1; subst e2
      refine OpS.quiet fun m xx => ?_
      cases xx
      exact ⟨_, .int _ _, fun w => by simp [Builtin.cap_, h0, run_under tok hu, goInt]⟩
    · rename_i el b off n c h1
      injection h1 with h1; subst h1
      cases hb : h.get b with
      | none => rw [hb] at e; cases e
      | some o =>
        rw [hb] at e
        cases o with
        | cells cs e0 g =>
          cases g with
          | true => cases e
          | false =>
            have e : Res.val (.int .i64 c) (h.touch b) = .val v h' := e
            injection e with e1 e2; subst e1; subst e2
            refine ⟨touch_le h b, fun Γ m hD w F I xx => ?_⟩
            have ht : Γ.tch b := (touch_noted h b).elim (fun x => (F.hi b x).1) (F.rd b)
            rcases xx.slice_inv with ⟨pl, cap', hm, hc, rfl⟩ | ⟨h4, h5, pl, a, hm, rfl⟩
            · obtain ⟨_, _, _, _, R⟩ := I.row hm hb ht
              have := hc.tight R.pos (R.tight rfl)
              subst this
              exact ⟨_, m, hD, w, by simp [Builtin.cap_, h0, run_under tok hu, goInt], .refl _, .int _ _, I.touch b⟩
            · subst h5
              exact ⟨_, m, hD, w, by simp [Builtin.cap_, h0, run_under tok hu, goInt], .refl _, .int _ _, I.touch b⟩
        | _ => cases e
    · cases e
end Go.Am
