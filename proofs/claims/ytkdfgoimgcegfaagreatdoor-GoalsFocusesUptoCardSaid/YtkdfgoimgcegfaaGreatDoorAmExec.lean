/- The abstract machine's operations, each against the model's: put together. -/
import Derived.Test.YtkdfgoimgcegfaaGreatDoorAmOps11
set_option linter.unusedSectionVars false
set_option linter.unusedSimpArgs false
set_option linter.unusedVariables false
namespace Go.Am
open Go
variable {T : Tab} {P : Program}

def OpRel (tm : Tr Value) (ρ : Operand → Value) (l : List Operand) (m : M) : Prop := ∀ x ∈ l, ∀ u, opv tm x = some u → VR m u (ρ x)
theorem OpRel.mono {tm : Tr Value} {ρ : Operand → Value} {l : List Operand} {m m' : M} (hm : MLe m m') (h : OpRel tm ρ l m) : OpRel tm ρ l m' := fun x hx u hu => (h x hx u hu).mono hm

theorem opvs_cons (tm : Tr Value) (x : Operand) (l : List Operand) : opvs tm (x :: l) = match opv tm x with
    | some v => match opvs tm l with
      | some r => some (v :: r)
      | none => none
    | none => none := rfl
theorem opvs_rel {tm : Tr Value} {ρ : Operand → Value} {m : M} : ∀ {l : List Operand} {vs : List Value}, opvs tm l = some vs → OpRel tm ρ l m → LR m vs (l.map ρ)
  | [], vs, e, _ => by have e : some [] = some vs := e; injection e with e; subst e; exact .nil
  | x :: l, vs, e, h => by
    rw [opvs_cons] at e
    cases hx : opv tm x with
    | none => rw [hx] at e; cases e
    | some v =>
      rw [hx] at e
      cases hl : opvs tm l with
      | none => simp only [hl] at e; cases e
      | some r =>
        simp only [hl] at e
        injection e with e; subst e
        exact .cons (h x (by simp) v hx) (opvs_rel hl fun y hy => h y (by simp [hy]))
theorem opvParts_cons (tm : Tr Value) (x : Nat × Operand) (l : List (Nat × Operand)) : opvParts tm (x :: l) = match opv tm x.2 with
    | some v => match opvParts tm l with
      | some r => some ((x.1, v) :: r)
      | none => none
    | none => none := rfl
theorem opvParts_rel {tm : Tr Value} {ρ : Operand → Value} {m : M} : ∀ {l : List (Nat × Operand)} {vs : List (Nat × Value)}, opvParts tm l = some vs → OpRel tm ρ (l.map (·.2)) m →
    PartsR m vs (l.map fun (i, x) => (i, ρ x))
  | [], vs, e, _ => by have e : some [] = some vs := e; injection e with e; subst e; exact .nil
  | (i, x) :: l, vs, e, h => by
    rw [opvParts_cons] at e
    cases hx : opv tm x with
    | none => simp only [hx] at e; cases e
    | some v =>
      simp only [hx] at e
      cases hl : opvParts tm l with
      | none => simp only [hl] at e; cases e
      | some r =>
        simp only [hl] at e
        injection e with e; subst e
        exact .cons (h x (by simp) v hx) (opvParts_rel hl fun y hy => h y (by simp only [List.map_cons, List.mem_cons]; exact .inr hy))

/-- A whole operation that yields a value. -/
def OpV (T : Tab) (P : Program) (tm : Tr Value) (ρ : Operand → Value) (h : H) (v : Value) (h' : H) (o : Oper) : Prop :=
  Le h h' ∧ ∀ Γ m hD w, Fin Γ h' → Inv T Γ m hD h w → OpRel tm ρ (opnds o.op) m →
    ∃ v' m' hD' w', ((Go.execOp ρ o).run P w = .ok (.value v') w' ∨ ((Go.execOp ρ o).run P w = .ok .skip w' ∧ v' = undef)) ∧ MLe m m' ∧ VR m' v v' ∧ Inv T Γ m' hD' h' w'
theorem OpS.val {tm : Tr Value} {ρ : Operand → Value} {h h' : H} {v : Value} {o : Oper} {s : Sem Value} {X : M → Prop} (H : OpS T P h v h' X s) (hX : ∀ m, OpRel tm ρ (opnds o.op) m → X m)
    (hs : ∀ w, (Go.execOp ρ o).run P w = (s.run P w).andThen fun a w' => .ok (.value a) w') : OpV T P tm ρ h v h' o := by
  refine ⟨H.1, fun Γ m hD w F I r => ?_⟩
  obtain ⟨v', m', hD', w', h1, h2⟩ := H.2 Γ m hD w F I (hX m r)
  exact ⟨v', m', hD', w', .inl (by rw [hs, h1]; rfl), h2⟩
theorem OpS.skip {tm : Tr Value} {ρ : Operand → Value} {h h' : H} {o : Oper} {s : Sem Unit} {X : M → Prop} (H : OpS T P h undef h' X (do s; pure undef)) (hX : ∀ m, OpRel tm ρ (opnds o.op) m → X m)
    (hs : ∀ w, (Go.execOp ρ o).run P w = (s.run P w).andThen fun _ w' => .ok .skip w') : OpV T P tm ρ h undef h' o := by
  refine ⟨H.1, fun Γ m hD w F I r => ?_⟩
  obtain ⟨v', m', hD', w', h1, h2⟩ := H.2 Γ m hD w F I (hX m r)
  simp only [Sem.run_bind, Sem.run_pure] at h1
  cases hr : s.run P w with
  | ok a w1 =>
    rw [hr] at h1
    simp only [Result.andThen_ok, Result.ok.injEq] at h1
    obtain ⟨rfl, rfl⟩ := h1
    exact ⟨undef, m', hD', _, .inr ⟨by rw [hs, hr]; rfl, rfl⟩, h2⟩
  | halt x w1 => rw [hr] at h1; cases h1

theorem andThen_assoc {α β γ : Type} (r : Result α) (f : α → World → Result β) (g : β → World → Result γ) : (r.andThen f).andThen g = r.andThen fun a w => (f a w).andThen g := by cases r <;> rfl
theorem mapUpdateOf_undef {h h' : H} {t : TypeId} {a b c : Option Value} {v : Value} (e : mapUpdateOf T h t a b c = .val v h') : v = undef := by
  unfold mapUpdateOf at e
  split at e
  · unfold mapUpdateBy at e
    split at e
    · obtain ⟨_, e⟩ := cond_val e
      unfold mapUpdateIn at e
      split at e
      · unfold mapPut at e
        split at e
        · injection e with e; exact e.symm
        · injection e with e; exact e.symm
        · cases e
      · cases e
    · cases e
  · cases e
theorem Out.of_inj {r r' : Res} (e : Out.of r = .of r') : r = r' := by injection e
theorem optR_of {tm : Tr Value} {ρ : Operand → Value} {m : M} {o : Option Operand} {r : Option Value} (e : bounds o (opvO tm o) = some r) (h : OpRel tm ρ (optL o) m) : OptR m r (o.map ρ) := by
  cases o with
  | none => have e : some none = some r := e; injection e with e; subst e; exact .none
  | some x =>
    have e : (match opv tm x with | some v => some (some v) | none => none) = some r := e
    cases hx : opv tm x with
    | none => rw [hx] at e; cases e
    | some v => rw [hx] at e; injection e with e; subst e; exact .some (h x (by simp [optL]) v hx)
theorem bounds_none {o : Option Operand} {tm : Tr Value} {r : Option Value} (e : bounds o (opvO tm o) = some r) : r = none → o = none := by
  intro hr; subst hr
  cases o with
  | none => rfl
  | some x =>
    have e : (match opv tm x with | some v => some (some v) | none => none) = some none := e
    cases hx : opv tm x with
    | none => rw [hx] at e; cases e
    | some v => rw [hx] at e; cases e

set_option maxHeartbeats 2000000 in
/-- An operation that yields a value in the abstract machine yields a like one in the model's. -/
theorem execOp_val (tok : TabOK T P) {tm : Tr Value} {ρ : Operand → Value} {h h' : H} {v : Value} {o : Oper} (e : Am.execOp T tm o.type h o.op = .of (.val v h')) : OpV T P tm ρ h v h' o := by
  obtain ⟨dst, op, type, pos, after, guard⟩ := o
  have one : ∀ {m : M} {x : Operand} {u : Value} {l : List Operand}, opv tm x = some u → x ∈ l → OpRel tm ρ l m → VR m u (ρ x) := fun hu hx r => r _ hx _ hu
  cases op
  case move x =>
    obtain ⟨e1, rfl⟩ := vres_val (o := opv tm x) (Out.of_inj e)
    exact OpS.val (s := pure (ρ x)) (X := fun m => VR m v (ρ x)) (OpS.quiet fun m hx => ⟨_, hx, fun w => rfl⟩) (fun m r => one e1 (by simp [opnds]) r) (fun w => rfl)
  case assign x =>
    obtain ⟨e1, rfl⟩ := vres_val (o := opv tm x) (Out.of_inj e)
    exact OpS.val (s := pure (ρ x)) (X := fun m => VR m v (ρ x)) (OpS.quiet fun m hx => ⟨_, hx, fun w => rfl⟩) (fun m r => one e1 (by simp [opnds]) r) (fun w => rfl)
  case pick c a b =>
    have e : pickOf tm h a b (opv tm c) = .val v h' := Out.of_inj e
    cases hc : opv tm c with
    | none => rw [hc] at e; cases e
    | some cv =>
      rw [hc] at e
      exact OpS.val (pickOf_sound (ρ := ρ) (c' := ρ c) e) (fun m r => ⟨one hc (by simp [opnds]) r, fun u hu => one hu (by simp [opnds]) r, fun u hu => one hu (by simp [opnds]) r⟩) (fun w => by simp [Go.execOp, andThen_assoc])
  case alloc el => exact OpS.val (alloc_sound tok (Out.of_inj e)) (fun _ _ => trivial) (fun w => by simp [Go.execOp])
  case box el x =>
    have e : boxOf h el (opv tm x) = .val v h' := Out.of_inj e
    cases hx : opv tm x with
    | none => rw [hx] at e; cases e
    | some u => rw [hx] at e; exact OpS.val (boxOf_sound (z' := ρ x) e) (fun m r => one hx (by simp [opnds]) r) (fun w => by simp [Go.execOp])
  case build t ps =>
    have e : buildOf T h t (zero T t) (opvParts tm ps.toList) = .val v h' := Out.of_inj e
    cases hp : opvParts tm ps.toList with
    | none => rw [hp] at e; cases hz : zero T t <;> rw [hz] at e <;> cases e
    | some q =>
      rw [hp] at e
      exact OpS.val (buildOf_sound tok (ps' := ps.map fun (i, x) => (i, ρ x)) e) (fun m r => by simpa using opvParts_rel hp r) (fun w => by simp [Go.execOp])
  case buildSlice t n ps =>
    have e : buildSliceOf T h n (T.under t) (opvParts tm ps.toList) = .val v h' := Out.of_inj e
    cases hp : opvParts tm ps.toList with
    | none => rw [hp] at e; unfold buildSliceOf at e; split at e <;> first | (cases e; done) | (rename_i q; cases q)
    | some q =>
      rw [hp] at e
      exact OpS.val (buildSliceOf_sound tok (ps' := ps.map fun (i, x) => (i, ρ x)) e) (fun m r => by simpa using opvParts_rel hp r) (fun w => by simp [Go.execOp])
  case insert t mp k x =>
    have e : mapUpdateOf T h t (opv tm mp) (opv tm k) (opv tm x) = .val v h' := Out.of_inj e
    cases hm : opv tm mp with
    | none => rw [hm] at e; cases e
    | some um =>
    cases hk : opv tm k with
    | none => rw [hm, hk] at e; cases e
    | some uk =>
    cases hx : opv tm x with
    | none => rw [hm, hk, hx] at e; cases e
    | some ux =>
      rw [hm, hk, hx] at e
      have hv : v = undef := mapUpdateOf_undef e
      subst hv
      exact OpS.skip (mapUpdateOf_sound tok (x' := ρ mp) (k' := ρ k) (u' := ρ x) e) (fun m r => ⟨one hm (by simp [opnds]) r, one hk (by simp [opnds]) r, one hx (by simp [opnds]) r⟩) (fun w => by simp [Go.execOp])
  case load t a =>
    have e : loadOf T h t (opv tm a) = .val v h' := Out.of_inj e
    cases ha : opv tm a with
    | none => rw [ha] at e; cases e
    | some u => rw [ha] at e; exact OpS.val (loadAt_sound tok (a' := ρ a) e) (fun m r => one ha (by simp [opnds]) r) (fun w => by simp [Go.execOp])
  case store t a x =>
    have e : storeOf T h t (opv tm a) (opv tm x) = .val v h' := Out.of_inj e
    cases ha : opv tm a with
    | none => rw [ha] at e; cases e
    | some ua =>
    cases hx : opv tm x with
    | none => rw [ha, hx] at e; cases e
    | some ux =>
      rw [ha, hx] at e
      have e : hres (storeAt T h t ux ua) = .val v h' := e
      cases hs : storeAt T h t ux ua with
      | none => rw [hs] at e; cases e
      | some h2 =>
        rw [hs] at e
        injection e with e1 e2; subst e1; subst e2
        exact OpS.skip (storeAt_sound tok (a' := ρ a) (v' := ρ x) hs) (fun m r => ⟨one ha (by simp [opnds]) r, one hx (by simp [opnds]) r⟩) (fun w => by simp [Go.execOp])
  case nilCheck x =>
    have e : nilCheckOf h (opv tm x) = .val v h' := Out.of_inj e
    cases hx : opv tm x with
    | none => rw [hx] at e; cases e
    | some u =>
      rw [hx] at e
      have hu : v = u ∧ h' = h ∧ ((∃ a, u = .pointer (some a)) ∨ (∃ f p q, u = .func (.func f) p q) ∨ (∃ l p q, u = .func (.yield l) p q)) := by
        unfold nilCheckOf at e
        split at e
        · rename_i q; injection q with q; injection e with e1 e2; exact ⟨by rw [← e1, q], e2.symm, .inl ⟨_, q⟩⟩
        · rename_i q; injection q with q; injection e with e1 e2; exact ⟨by rw [← e1, q], e2.symm, .inr (.inl ⟨_, _, _, q⟩)⟩
        · rename_i q; injection q with q; injection e with e1 e2; exact ⟨by rw [← e1, q], e2.symm, .inr (.inr ⟨_, _, _, q⟩)⟩
        · cases e
      obtain ⟨rfl, rfl, hform⟩ := hu
      refine ⟨.refl _, fun Γ m hD w F I r => ?_⟩
      have hr := one hx (by simp [opnds]) r
      refine ⟨ρ x, m, hD, w, .inl ?_, .refl _, hr, I⟩
      generalize hq : ρ x = q at hr ⊢
      rcases hform with ⟨a, rfl⟩ | ⟨f, p, q, rfl⟩ | ⟨l, p, q, rfl⟩
      · cases hr; simp [Go.execOp, hq]
      · cases hr; simp [Go.execOp, hq]
      · cases hr; simp [Go.execOp, hq]
  case binOp op t x y yt =>
    have e : binOf T h op t x y (opv tm x) (opv tm y) = .val v h' := Out.of_inj e
    cases hx : opv tm x with
    | none => rw [hx] at e; cases e
    | some ux =>
    cases hy : opv tm y with
    | none => rw [hx, hy] at e; cases e
    | some uy =>
      rw [hx, hy] at e
      exact OpS.val (binV_sound tok (a' := ρ x) (b' := ρ y) e) (fun m r => ⟨one hx (by simp [opnds]) r, one hy (by simp [opnds]) r⟩) (fun w => by simp [Go.execOp, andThen_assoc])
  case unOp op t x =>
    have e : unOf T h op (opv tm x) = .val v h' := Out.of_inj e
    cases hx : opv tm x with
    | none => rw [hx] at e; cases e
    | some u => rw [hx] at e; exact OpS.val (unOf_sound tok (a' := ρ x) e) (fun m r => one hx (by simp [opnds]) r) (fun w => by simp [Go.execOp])
  case convert s d x =>
    have e : convertOf T h s d (opv tm x) = .val v h' := Out.of_inj e
    cases hx : opv tm x with
    | none => rw [hx] at e; cases e
    | some u => rw [hx] at e; exact OpS.val (convertOf_sound tok (a' := ρ x) e) (fun m r => one hx (by simp [opnds]) r) (fun w => by simp [Go.execOp])
  case makeInterface t x =>
    have e : ifaceOf h t (T.under t) (opv tm x) = .val v h' := Out.of_inj e
    cases hx : opv tm x with
    | none => rw [hx] at e; cases hu : T.under t with
      | none => rw [hu] at e; cases e
      | some d => rw [hu] at e; cases d <;> cases e
    | some u => rw [hx] at e; exact OpS.val (ifaceOf_sound tok (x' := ρ x) e) (fun m r => one hx (by simp [opnds]) r) (fun w => by simp [Go.execOp])
  case makeFunc fn first cap =>
    have e : funcOf h fn (opvs tm first.toList) (opvs tm cap.toList) = .val v h' := Out.of_inj e
    cases hf : opvs tm first.toList with
    | none => rw [hf] at e; cases fn <;> cases e
    | some a =>
    cases hc : opvs tm cap.toList with
    | none => rw [hf, hc] at e; cases fn <;> cases e
    | some b =>
      rw [hf, hc] at e
      cases fn with
      | func f =>
        injection e with e1 e2; subst e1; subst e2
        exact OpS.val (s := Instr.makeFunc (.func f) (first.map ρ) (cap.map ρ)) (X := fun m => LR m a (first.toList.map ρ) ∧ LR m b (cap.toList.map ρ))
          (OpS.quiet fun m ⟨ha, hb⟩ => ⟨.func (.func f) (first.map ρ) (cap.map ρ), by
            have e1 : first.map ρ = ⟨first.toList.map ρ⟩ := by apply Array.ext'; simp
            have e2 : cap.map ρ = ⟨cap.toList.map ρ⟩ := by apply Array.ext'; simp
            rw [e1, e2]; exact .func f ha hb, fun w => by simp [Instr.makeFunc]⟩)
          (fun m r => ⟨opvs_rel hf (fun y hy => r y (by simp only [opnds, List.mem_append]; exact .inl hy)), opvs_rel hc (fun y hy => r y (by simp only [opnds, List.mem_append]; exact .inr hy))⟩) (fun w => by simp [Go.execOp])
      | _ => cases e
  case makeMap t r => exact OpS.val (makeMapOf_sound (t := t) (ρ := ρ) (Out.of_inj e)) (fun _ _ => trivial) (fun w => by simp [Go.execOp])
  case makeSlice t l c =>
    have e : makeSliceOf T h (T.under t) (opv tm l) (opv tm c) = .val v h' := Out.of_inj e
    cases hl : opv tm l with
    | none => rw [hl] at e; unfold makeSliceOf at e; split at e <;> first | (cases e; done) | (rename_i q _; cases q)
    | some ul =>
    cases hc : opv tm c with
    | none => rw [hl, hc] at e; unfold makeSliceOf at e; split at e <;> first | (cases e; done) | (rename_i q; cases q)
    | some uc =>
      rw [hl, hc] at e
      exact OpS.val (makeSliceOf_sound tok (l' := ρ l) (c' := ρ c) e) (fun m r => ⟨one hl (by simp [opnds]) r, one hc (by simp [opnds]) r⟩) (fun w => by simp [Go.execOp])
  case slice t x lo hi mx =>
    have e : sliceOf T h t (opv tm x) (bounds lo (opvO tm lo)) (bounds hi (opvO tm hi)) (bounds mx (opvO tm mx)) = .val v h' := Out.of_inj e
    unfold sliceOf at e
    split at e
    · rename_i ux bl bh bm hx hl hh hm
      have key : (bh = none → bm = none) ∧ sliceBy T h bl bh bm (T.under t) ux = .val v h' := by
        split at e
        · cases e
        · rename_i hne
          refine ⟨fun hb => ?_, e⟩
          cases bm with
          | none => rfl
          | some y => exact (hne y hb rfl).elim
      refine OpS.val (sliceBy_sound tok (x' := ρ x) (lo' := lo.map ρ) (hi' := hi.map ρ) (mx' := mx.map ρ) key.2 key.1) (fun m r => ⟨one hx (by simp [opnds]) r, optR_of hl fun y hy => r y ?_, optR_of hh fun y hy => r y ?_, optR_of hm fun y hy => r y ?_⟩) (fun w => by simp [Go.execOp])
      · simp only [opnds, List.mem_cons, List.mem_append]; exact .inr (.inl hy)
      · simp only [opnds, List.mem_cons, List.mem_append]; exact .inr (.inr (.inl hy))
      · simp only [opnds, List.mem_cons, List.mem_append]; exact .inr (.inr (.inr hy))
    · cases e
  case fieldAddr s x f =>
    have e : fieldAddrOf T h s f (opv tm x) = .val v h' := Out.of_inj e
    cases hx : opv tm x with
    | none => rw [hx] at e; cases e
    | some u => rw [hx] at e; exact OpS.val (fieldAddrOf_sound tok (x' := ρ x) e) (fun m r => one hx (by simp [opnds]) r) (fun w => by simp [Go.execOp])
  case field t x f =>
    have e : fieldOf T h f (T.under t) (opv tm x) = .val v h' := Out.of_inj e
    cases hx : opv tm x with
    | none => rw [hx] at e; unfold fieldOf at e; split at e <;> first | (cases e; done) | (rename_i q; cases q)
    | some u => rw [hx] at e; exact OpS.val (fieldOf_sound tok (x' := ρ x) e) (fun m r => one hx (by simp [opnds]) r) (fun w => by simp [Go.execOp])
  case indexAddr t x i =>
    have e : indexAddrOf T h (T.under t) (opv tm x) (opv tm i) = .val v h' := Out.of_inj e
    cases hx : opv tm x with
    | none => rw [hx] at e; unfold indexAddrOf at e; split at e <;> first | (cases e; done) | (rename_i q _; cases q)
    | some ux =>
    cases hi : opv tm i with
    | none => rw [hx, hi] at e; unfold indexAddrOf at e; split at e <;> first | (cases e; done) | (rename_i q; cases q)
    | some ui =>
      rw [hx, hi] at e
      exact OpS.val (indexAddrOf_sound tok (x' := ρ x) (i' := ρ i) e) (fun m r => ⟨one hx (by simp [opnds]) r, one hi (by simp [opnds]) r⟩) (fun w => by simp [Go.execOp])
  case index t x i =>
    have e : indexOf T h t (T.under t) (opv tm x) (opv tm i) = .val v h' := Out.of_inj e
    cases hx : opv tm x with
    | none => rw [hx] at e; unfold indexOf at e; split at e <;> first | (cases e; done) | (rename_i q _; cases q)
    | some ux =>
    cases hi : opv tm i with
    | none => rw [hx, hi] at e; unfold indexOf at e; split at e <;> first | (cases e; done) | (rename_i q; cases q)
    | some ui =>
      rw [hx, hi] at e
      exact OpS.val (indexOf_sound tok (x' := ρ x) (i' := ρ i) e) (fun m r => ⟨one hx (by simp [opnds]) r, one hi (by simp [opnds]) r⟩) (fun w => by simp [Go.execOp])
  case lookup t x i ok =>
    have e : lookupOf T h t ok (opv tm x) (opv tm i) = .val v h' := Out.of_inj e
    cases hx : opv tm x with
    | none => rw [hx] at e; cases e
    | some ux =>
    cases hi : opv tm i with
    | none => rw [hx, hi] at e; cases e
    | some ui =>
      rw [hx, hi] at e
      exact OpS.val (lookupOf_sound tok (x' := ρ x) (k' := ρ i) e) (fun m r => ⟨one hx (by simp [opnds]) r, one hi (by simp [opnds]) r⟩) (fun w => by simp [Go.execOp])
  case mapUpdate t mp k x =>
    have e : mapUpdateOf T h t (opv tm mp) (opv tm k) (opv tm x) = .val v h' := Out.of_inj e
    cases hm : opv tm mp with
    | none => rw [hm] at e; cases e
    | some um =>
    cases hk : opv tm k with
    | none => rw [hm, hk] at e; cases e
    | some uk =>
    cases hx : opv tm x with
    | none => rw [hm, hk, hx] at e; cases e
    | some ux =>
      rw [hm, hk, hx] at e
      have hv : v = undef := mapUpdateOf_undef e
      subst hv
      exact OpS.skip (mapUpdateOf_sound tok (x' := ρ mp) (k' := ρ k) (u' := ρ x) e) (fun m r => ⟨one hm (by simp [opnds]) r, one hk (by simp [opnds]) r, one hx (by simp [opnds]) r⟩) (fun w => by simp [Go.execOp])
  case range t x =>
    have e : rangeOf h (T.under t) (opv tm x) = .val v h' := Out.of_inj e
    cases hx : opv tm x with
    | none => rw [hx] at e; unfold rangeOf at e; split at e <;> first | (cases e; done) | (rename_i q; cases q)
    | some u => rw [hx] at e; exact OpS.val (rangeOf_sound tok (x' := ρ x) e) (fun m r => one hx (by simp [opnds]) r) (fun w => by simp [Go.execOp])
  case next it b =>
    have e : nextOf h b (opv tm it) = .val v h' := Out.of_inj e
    cases hx : opv tm it with
    | none => rw [hx] at e; cases e
    | some u => rw [hx] at e; exact OpS.val (nextOf_sound (x' := ρ it) (t := type) e) (fun m r => one hx (by simp [opnds]) r) (fun w => by simp [Go.execOp])
  case entry it =>
    have e : entryOf h (opv tm it) = .val v h' := Out.of_inj e
    cases hx : opv tm it with
    | none => rw [hx] at e; cases e
    | some u => rw [hx] at e; exact OpS.val (entryOf_sound (x' := ρ it) e) (fun m r => one hx (by simp [opnds]) r) (fun w => by simp [Go.execOp])
  case typeAssert x xt t ok =>
    have e : assertOf T h t ok (T.under t) (opv tm x) = .val v h' := Out.of_inj e
    cases hx : opv tm x with
    | none => rw [hx] at e; unfold assertOf at e; split at e <;> first | (cases e; done) | (rename_i q; cases q)
    | some u => rw [hx] at e; exact OpS.val (assertOf_sound tok (xt := xt) (x' := ρ x) e) (fun m r => one hx (by simp [opnds]) r) (fun w => by simp [Go.execOp])
  case extract x i =>
    have e : extractOf h i (opv tm x) = .val v h' := Out.of_inj e
    cases hx : opv tm x with
    | none => rw [hx] at e; cases e
    | some u => rw [hx] at e; exact OpS.val (extractOf_sound (x' := ρ x) e) (fun m r => one hx (by simp [opnds]) r) (fun w => by simp [Go.execOp])
  case call c =>
    obtain ⟨callee, args, argTypes⟩ := c
    have e : callOf T tm h argTypes type callee (opvs tm args.toList) = .of (.val v h') := e
    cases ha : opvs tm args.toList with
    | none => rw [ha] at e; cases e
    | some l =>
      rw [ha] at e
      cases callee with
      | value f =>
        have e : callTo l (opv tm f) = .of (.val v h') := e
        cases hf : opv tm f <;> rw [hf] at e <;> cases e
      | invoke r n => cases e
      | builtin b =>
        have e : builtinOf T h argTypes type l b = .of (.val v h') := e
        have hL : ∀ m, OpRel tm ρ (opnds (Op.call ⟨.builtin b, args, argTypes⟩)) m → LR m l (args.toList.map ρ) := fun m r => opvs_rel ha r
        have hargs : args.map ρ = ⟨args.toList.map ρ⟩ := by apply Array.ext'; simp
        cases b with
        | append =>
          rcases l with _ | ⟨s, _ | ⟨x, _ | ⟨y, q⟩⟩⟩
          · cases e
          · cases e
          · cases hq : args.toList.map ρ with
            | nil => exact ⟨(appendOf_sound (P := P) tok (s' := s) (x' := x) (t := type) (Out.of_inj e)).1, fun Γ m hD w F I r => by have := hL m r; rw [hq] at this; cases this⟩
            | cons s' q2 =>
              cases q2 with
              | nil => exact ⟨(appendOf_sound (P := P) tok (s' := s) (x' := x) (t := type) (Out.of_inj e)).1, fun Γ m hD w F I r => by have := hL m r; rw [hq] at this; cases this with | cons a b => cases b⟩
              | cons x' q3 =>
                cases q3 with
                | cons y q4 => exact ⟨(appendOf_sound (P := P) tok (s' := s) (x' := x) (t := type) (Out.of_inj e)).1, fun Γ m hD w F I r => by have := hL m r; rw [hq] at this; cases this with | cons a b => cases b with | cons c d => cases d⟩
                | nil =>
                  rw [hq] at hargs
                  exact OpS.val (appendOf_sound tok (s' := s') (x' := x') (t := type) (Out.of_inj e)) (fun m r => by have := hL m r; rw [hq] at this; cases this with | cons a b => cases b with | cons c d => exact ⟨a, c⟩)
                    (fun w => by simp [Go.execOp, resolve, invoke, builtin, hargs])
          · cases e
        | len =>
          rcases l with _ | ⟨x, _ | ⟨y, q⟩⟩
          · cases e
          · cases hq : args.toList.map ρ with
            | nil => exact ⟨(lenBy_sound (P := P) tok (x' := x) (t := type) (Out.of_inj e)).1, fun Γ m hD w F I r => by have := hL m r; rw [hq] at this; cases this⟩
            | cons x' q2 =>
              cases q2 with
              | cons y q3 => exact ⟨(lenBy_sound (P := P) tok (x' := x) (t := type) (Out.of_inj e)).1, fun Γ m hD w F I r => by have := hL m r; rw [hq] at this; cases this with | cons a b => cases b⟩
              | nil =>
                rw [hq] at hargs
                exact OpS.val (lenBy_sound tok (x' := x') (t := type) (Out.of_inj e)) (fun m r => by have := hL m r; rw [hq] at this; cases this with | cons a b => exact a) (fun w => by simp [Go.execOp, resolve, invoke, builtin, hargs])
          · cases e
        | cap =>
          rcases l with _ | ⟨x, _ | ⟨y, q⟩⟩
          · cases e
          · cases hq : args.toList.map ρ with
            | nil => exact ⟨(capBy_sound (P := P) tok (x' := x) (t := type) (Out.of_inj e)).1, fun Γ m hD w F I r => by have := hL m r; rw [hq] at this; cases this⟩
            | cons x' q2 =>
              cases q2 with
              | cons y q3 => exact ⟨(capBy_sound (P := P) tok (x' := x) (t := type) (Out.of_inj e)).1, fun Γ m hD w F I r => by have := hL m r; rw [hq] at this; cases this with | cons a b => cases b⟩
              | nil =>
                rw [hq] at hargs
                exact OpS.val (capBy_sound tok (x' := x') (t := type) (Out.of_inj e)) (fun m r => by have := hL m r; rw [hq] at this; cases this with | cons a b => exact a) (fun w => by simp [Go.execOp, resolve, invoke, builtin, hargs])
          · cases e
        | max =>
          have e : pureOf h T.prog (allGround l) (Builtin.max_ argTypes type l.toArray) = .val v h' := Out.of_inj e
          obtain ⟨hg, e⟩ := cond_val (r := vresG h (pureRun T.prog (Builtin.max_ argTypes type l.toArray))) e
          exact OpS.val (pure_sound (X := fun m => LR m l (args.toList.map ρ)) (s' := Builtin.max_ argTypes type (args.map ρ)) tok e (fun m r => by rw [hargs, r.ground hg])) hL (fun w => by simp [Go.execOp, resolve, invoke, builtin])
        | min =>
          have e : pureOf h T.prog (allGround l) (Builtin.min_ argTypes type l.toArray) = .val v h' := Out.of_inj e
          obtain ⟨hg, e⟩ := cond_val (r := vresG h (pureRun T.prog (Builtin.min_ argTypes type l.toArray))) e
          exact OpS.val (pure_sound (X := fun m => LR m l (args.toList.map ρ)) (s' := Builtin.min_ argTypes type (args.map ρ)) tok e (fun m r => by rw [hargs, r.ground hg])) hL (fun w => by simp [Go.execOp, resolve, invoke, builtin])
        | _ => cases e
  case defer c =>
    obtain ⟨callee, args, argTypes⟩ := c
    have e : deferOf tm callee (opvs tm args.toList) = .of (.val v h') := e
    cases ha : opvs tm args.toList with
    | none => rw [ha] at e; cases e
    | some l =>
      rw [ha] at e
      cases callee with
      | value f =>
        have e : deferTo l (opv tm f) = .of (.val v h') := e
        cases hf : opv tm f <;> rw [hf] at e <;> cases e
      | _ => cases e
  case panic x =>
    have e : panOf (opv tm x) = .of (.val v h') := e
    cases hx : opv tm x with
    | none => rw [hx] at e; cases e
    | some u => rw [hx] at e; cases u <;> cases e
  all_goals cases e
end Go.Am
