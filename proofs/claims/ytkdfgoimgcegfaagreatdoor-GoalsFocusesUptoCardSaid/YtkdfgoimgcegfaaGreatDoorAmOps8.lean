/- Each operation of the abstract machine, against the model's: maps. -/
import Derived.Test.YtkdfgoimgcegfaaGreatDoorAmOps5
import Derived.MapKept
set_option linter.unusedSectionVars false
set_option linter.unusedSimpArgs false
set_option linter.unusedVariables false
namespace Go.Am
open Go
variable {T : Tab} {P : Program}

def Obj.calm (o : Obj) : Prop := ∀ c e f, o = .cells c e f → f = (0, 0)
theorem OR.calm {m : M} {pl : Pl} {o : AObj} {o' : Obj} (h : OR T m pl o o') : Obj.calm o' := by
  intro c e f hc; subst hc; exact h.frozen
theorem frozen_calm {w : World} {a : Addr} {o : Obj} (hw : w.heap[a.block]? = some o) (h : Obj.calm o) : w.frozen? a = false := by
  unfold World.frozen?
  rw [hw]
  cases o <;> simp
  case cells q e f => have := h q e f rfl; subst this; simp
theorem setObj_same (w : World) {c : Nat} {o o' : Obj} (hc : w.heap[c]? = some o) (h1 : Obj.calm o) (h2 : Obj.calm o') :
    ({ w with heap := w.heap.setIfInBounds c o' } : World).heap[c]? = some o' ∧ (∀ j, j ≠ c → ({ w with heap := w.heap.setIfInBounds c o' } : World).heap[j]? = w.heap[j]?) ∧
      ({ w with heap := w.heap.setIfInBounds c o' } : World).heap.size = w.heap.size ∧ Same w { w with heap := w.heap.setIfInBounds c o' } := by
  have hlt : c < w.heap.size := (Array.getElem?_eq_some_iff.1 hc).1
  have a1 : (w.heap.setIfInBounds c o')[c]? = some o' := by simp [hlt]
  have a2 : ∀ j, j ≠ c → (w.heap.setIfInBounds c o')[j]? = w.heap[j]? := fun j hj => by rw [Array.getElem?_setIfInBounds_ne (Ne.symm hj)]
  refine ⟨a1, a2, by simp, ⟨fun a => ?_, rfl, rfl, rfl⟩⟩
  by_cases ha : a.block = c
  · rw [frozen_calm (w := w) (by rw [ha]; exact hc) h1, frozen_calm (w := { w with heap := w.heap.setIfInBounds c o' }) (by rw [ha]; exact a1) h2]
  · unfold World.frozen?
    rw [a2 _ ha]
def Obj.isCells : Obj → Bool
  | .cells .. => true
  | _ => false
theorem run_getObj {w : World} {r : Nat} {o : Obj} (h : w.heap[r]? = some o) (hn : Obj.isCells o = false) : (getObj r).run P w = .ok o w := by
  cases o <;> first | (cases hn; done) | simp [getObj, Sem.run, h]
theorem run_setObj {w : World} {r : Nat} {o o' : Obj} (h : w.heap[r]? = some o) (hn : Obj.isCells o = false) : (setObj r o').run P w = .ok () { w with heap := w.heap.setIfInBounds r o' } := by
  cases o <;> first | (cases hn; done) | simp [setObj, Sem.run, h]

theorem makeMapOf_sound {h h' : H} {t : TypeId} {r : Option Operand} {v : Value} {ρ : Operand → Value} (e : makeMapOf h r = .val v h') : OpS T P h v h' (fun _ => True) (Instr.makeMap t (r.map ρ)) := by
  cases r with
  | some x => cases e
  | none =>
    injection e with e1 e2; subst e1; subst e2
    refine ⟨new_le _ _, fun Γ m hD w F I _ => ?_⟩
    obtain ⟨m', hD', k1, k2, k3⟩ := newObj_sound I (o' := .map #[] 0) (pl := ⟨w.heap.size, 0, 0, 0, 1⟩) F rfl (fun m' _ _ => .map .nil) (fun _ _ _ h => by cases h)
    exact ⟨.map (some w.heap.size), m', hD', _, by simp [Instr.makeMap], k1, .map k2, k3⟩

theorem keyKind_some {o : Option TypeDesc} {kd : TypeDesc} (e : keyKind o = some kd) : o = some kd ∧ ((∃ k, kd = .int k) ∨ kd = .string ∨ kd = .bool) := by
  unfold keyKind at e
  split at e
  · injection e with e; subst e; exact ⟨rfl, .inl ⟨_, rfl⟩⟩
  · injection e with e; subst e; exact ⟨rfl, .inr (.inl rfl)⟩
  · injection e with e; subst e; exact ⟨rfl, .inr (.inr rfl)⟩
  · cases e
theorem run_checkKey (tok : TabOK T P) {t : TypeId} {kd : TypeDesc} (e : keyKind (T.under t) = some kd) (emp : Bool) (v : Value) (w : World) : (Instr.checkKey emp 10000 t v).run P w = .ok () w := by
  obtain ⟨hu, hk⟩ := keyKind_some e
  have key : ∀ n, (Instr.checkKey emp (n + 1) t v).run P w = .ok () w := fun n => by
    rcases hk with ⟨k, rfl⟩ | rfl | rfl <;> simp [Instr.checkKey, run_under tok hu]
  exact key 9999
theorem sameNow_true {kd : TypeDesc} {a b : Value} (e : Instr.sameNow kd a b = some true) : b = a ∧ ∀ n, Instr.sameBits n b a = true := by
  unfold Instr.sameNow at e
  split at e
  · rename_i k a k' b
    split at e
    · rename_i hk; subst hk; injection e with e; have := eq_of_beq e; subst this; exact ⟨rfl, fun n => by simp [Instr.sameBits]⟩
    · cases e
  · injection e with e; have := (MapKept.bytes_beq _ _).1 e; subst this; exact ⟨rfl, fun n => by simp only [Instr.sameBits]; exact (MapKept.bytes_beq _ _).2 rfl⟩
  · injection e with e; have := eq_of_beq e; subst this; exact ⟨rfl, fun n => by simp [Instr.sameBits]⟩
  · cases e
theorem findNow_none {m : M} {kd : TypeDesc} {k : Value} : ∀ {es es' : List MapEntry} {i : Nat}, ER m es es' → Instr.findNow kd k es i = some none → Instr.findNow kd k es' i = some none
  | _, _, _, .nil, _ => rfl
  | _, _, i, .cons (k := k2) hk hv hl, e => by
    simp only [Instr.findNow] at e ⊢
    cases hs : Instr.sameNow kd k k2 with
    | none => rw [hs] at e; cases e
    | some b =>
      rw [hs] at e
      cases b with
      | true => cases e
      | false => exact findNow_none hl e
theorem findNow_some {m : M} {kd : TypeDesc} {k : Value} : ∀ {es es' : List MapEntry} {i j : Nat} {v : Value}, ER m es es' → Instr.findNow kd k es i = some (some (j, v)) →
    ∃ v', Instr.findNow kd k es' i = some (some (j, v')) ∧ VR m v v' ∧ i ≤ j ∧ ∃ e', es'[j - i]? = some e' ∧ e'.key = k ∧ ∀ n, Instr.sameBits n e'.key k = true
  | _, _, _, _, _, .nil, e => by cases e
  | _, _, i, j, v, .cons (k := k2) (v := u) (v' := u') (n := nn) hk hv hl, e => by
    simp only [Instr.findNow] at e ⊢
    cases hs : Instr.sameNow kd k k2 with
    | none => rw [hs] at e; cases e
    | some b =>
      rw [hs] at e
      cases b with
      | true =>
        injection e with e; injection e with e; injection e with e1 e2; subst e1; subst e2
        obtain ⟨q1, q2⟩ := sameNow_true hs
        exact ⟨u', rfl, hv, Nat.le_refl _, ⟨k2, u', nn⟩, by simp, q1, q2⟩
      | false =>
        obtain ⟨v', k1, k2', k3, e', k4, k5⟩ := findNow_some hl e
        refine ⟨v', k1, k2', by omega, e', ?_, k5⟩
        rw [show j - i = (j - (i + 1)) + 1 from by omega]; simpa using k4
theorem ER.snoc {m : M} : ∀ {es es' : List MapEntry} {k v v' : Value} {n : Nat}, ER m es es' → ground k = true → VR m v v' → ER m (es ++ [⟨k, v, n⟩]) (es' ++ [⟨k, v', n⟩])
  | _, _, _, _, _, _, .nil, hk, hv => .cons hk hv .nil
  | _, _, _, _, _, _, .cons a b c, hk, hv => .cons a b (c.snoc hk hv)
theorem ER.modify {m : M} {k v v' : Value} (hk : ground k = true) (hv : VR m v v') : ∀ {es es' : List MapEntry} (i : Nat), ER m es es' →
    ER m (es.modify i fun e => { e with key := k, val := v }) (es'.modify i fun e => { e with key := k, val := v' })
  | _, _, _, .nil => by simpa using ER.nil
  | _, _, 0, .cons a b c => by simpa using ER.cons hk hv c
  | _, _, i + 1, .cons a b c => by simpa using ER.cons a b (c.modify hk hv i)

theorem lookupIn_sound {m : M} {h h' : H} {k v z : Value} {ok : Bool} {es es' : List MapEntry} {kd : TypeDesc} (e : lookupIn h k ok es (some kd) (some z) = .val v h') (hE : ER m es es') (hz : groundDeep z = true) :
    h' = h ∧ ∃ r, Instr.findNow kd k es' 0 = some r ∧ ∃ v', VR m v v' ∧ v' = (let (x, b) := (match r with | some (_, u) => (u, true) | none => (z, false)); if ok then .tuple #[x, .bool b] else x) := by
  have e : lookupRes h ok z (Instr.findNow kd k es 0) = .val v h' := e
  cases hf : Instr.findNow kd k es 0 with
  | none => rw [hf] at e; cases e
  | some r =>
    rw [hf] at e
    cases r with
    | none =>
      injection e with e1 e2; subst e1; subst e2
      refine ⟨rfl, none, findNow_none hE hf, _, ?_, rfl⟩
      cases ok
      · exact VR.refl_deep m hz
      · exact .tuple (.cons (VR.refl_deep m hz) (.cons (.bool _) .nil))
    | some x =>
      obtain ⟨j, u⟩ := x
      injection e with e1 e2; subst e1; subst e2
      obtain ⟨u', k1, k2, _⟩ := findNow_some hE hf
      refine ⟨rfl, _, k1, _, ?_, rfl⟩
      cases ok
      · exact k2
      · exact .tuple (.cons k2 (.cons (.bool _) .nil))
theorem run_findKey (tok : TabOK T P) {t : TypeId} {kd : TypeDesc} (hu : T.under t = some kd) {k : Value} {es : List MapEntry} {r : Option (Nat × Value)} (e : Instr.findNow kd k es 0 = some r) (w : World) :
    (Instr.findKey t k es).run P w = .ok r w := by
  simp only [Instr.findKey, Sem.run_bind, run_under tok hu, Result.andThen_ok, e, Sem.run_pure]
theorem lookupOf_sound (tok : TabOK T P) {h h' : H} {t : TypeId} {ok : Bool} {x x' k k' v : Value} (e : lookupOf T h t ok (some x) (some k) = .val v h') :
    OpS T P h v h' (fun m => VR m x x' ∧ VR m k k') (Instr.lookup t x' k' ok) := by
  replace e : lookupBy T h k ok (T.under t) x = .val v h' := e
  cases hu : T.under t with
  | none => rw [hu] at e; cases e
  | some d =>
    rw [hu] at e
    unfold lookupBy at e
    split at e
    · rename_i kt et h1
      injection h1 with h1; subst h1
      obtain ⟨hg, e⟩ := cond_val e
      cases hk : keyKind (T.under kt) with
      | none => rw [hk] at e; cases e
      | some kd =>
        cases hz : zero T et with
        | none => rw [hk, hz] at e; cases e
        | some z =>
          rw [hk, hz] at e
          obtain ⟨zg, zr⟩ := zero_ok tok hz
          obtain ⟨rfl, _⟩ := lookupIn_sound (m := M.empty) e .nil zg
          refine OpS.quiet fun m ⟨xx, xk⟩ => ?_
          obtain ⟨_, r, k1, v', k2, rfl⟩ := lookupIn_sound (m := m) e .nil zg
          cases xx
          rw [xk.ground hg]
          refine ⟨_, k2, fun w => ?_⟩
          obtain ⟨hku, _⟩ := keyKind_some hk
          have hr := run_findKey (P := P) tok hku k1 w
          cases r with
          | none => simp only [Instr.lookup, Sem.run_bind, run_under tok hu, Result.andThen_ok, Sem.run_pure, run_checkKey tok hk, hr, zr]
          | some y => simp only [Instr.lookup, Sem.run_bind, run_under tok hu, Result.andThen_ok, Sem.run_pure, run_checkKey tok hk, hr]
    · rename_i kt et r h1
      injection h1 with h1; subst h1
      obtain ⟨hg, e⟩ := cond_val e
      cases hb : h.get r with
      | none => rw [hb] at e; cases e
      | some o =>
        rw [hb] at e
        cases o with
        | map es clk =>
          have e : lookupIn (h.touch r) k ok es.toList (keyKind (T.under kt)) (zero T et) = .val v h' := e
          cases hk : keyKind (T.under kt) with
          | none => rw [hk] at e; cases e
          | some kd =>
            cases hz : zero T et with
            | none => rw [hk, hz] at e; cases e
            | some z =>
              rw [hk, hz] at e
              obtain ⟨zg, zr⟩ := zero_ok tok hz
              have hh : h' = h.touch r := by
                have e2 : lookupRes (h.touch r) ok z (Instr.findNow kd k es.toList 0) = .val v h' := e
                unfold lookupRes at e2
                split at e2 <;> first | (cases e2; done) | (injection e2 with _ e2; exact e2.symm)
              subst hh
              refine ⟨touch_le h r, fun Γ m hD w F I ⟨xx, xk⟩ => ?_⟩
              have ht : Γ.tch r := (touch_noted h r).elim (fun x => (F.hi r x).1) (F.rd r)
              cases xx with
              | map hm =>
                obtain ⟨_, o', ho, hO⟩ := I.get hm hb ht
                cases hO with
                | map hE =>
                  obtain ⟨_, q, k1, v', k2, rfl⟩ := lookupIn_sound (m := m) e hE zg
                  rw [xk.ground hg]
                  refine ⟨_, m, hD, w, ?_, .refl _, k2, I.touch r⟩
                  obtain ⟨hku, _⟩ := keyKind_some hk
                  have hr := run_findKey (P := P) tok hku k1 w
                  have hgo := run_getObj (P := P) ho rfl
                  cases q with
                  | none => simp only [Instr.lookup, Sem.run_bind, run_under tok hu, Result.andThen_ok, Sem.run_pure, hgo, run_checkKey tok hk, hr, zr]
                  | some y => simp only [Instr.lookup, Sem.run_bind, run_under tok hu, Result.andThen_ok, Sem.run_pure, hgo, run_checkKey tok hk, hr]
        | _ => cases e
    · cases e

theorem mapUpdateOf_sound (tok : TabOK T P) {h h' : H} {t : TypeId} {x x' k k' u u' v : Value} (e : mapUpdateOf T h t (some x) (some k) (some u) = .val v h') :
    OpS T P h v h' (fun m => VR m x x' ∧ VR m k k' ∧ VR m u u') (do Instr.mapUpdate t x' k' u'; pure undef) := by
  replace e : mapUpdateBy T h k u (T.under t) x = .val v h' := e
  cases hu : T.under t with
  | none => rw [hu] at e; cases e
  | some d =>
    rw [hu] at e
    unfold mapUpdateBy at e
    split at e
    · rename_i kt et r h1
      injection h1 with h1; subst h1
      obtain ⟨hg, e⟩ := cond_val e
      cases hk : keyKind (T.under kt) with
      | none => rw [hk] at e; cases e
      | some kd =>
        rw [hk] at e
        cases hb : h.get r with
        | none => rw [hb] at e; cases e
        | some o =>
          rw [hb] at e
          cases o with
          | map es clk =>
            obtain ⟨es⟩ := es
            have e : mapPut h r k u ⟨es⟩ clk (Instr.findNow kd k es 0) = .val v h' := e
            obtain ⟨hku, _⟩ := keyKind_some hk
            cases hf : Instr.findNow kd k es 0 with
            | none => rw [hf] at e; cases e
            | some q =>
              rw [hf] at e
              cases q with
              | none =>
                injection e with e1 e2; subst e1; subst e2
                refine ⟨put_le _ _ _ hb, fun Γ m hD w F I ⟨xx, xk, xu⟩ => ?_⟩
                have hn := put_noted h r (.map ((⟨es⟩ : Array MapEntry).push { key := k, val := u, born := clk }) (clk + 1))
                have ht : Γ.tch r := hn.elim (fun x => (F.hi r x).1) (fun x => F.rd r x.1)
                cases xx with
                | @map _ pl hm =>
                  obtain ⟨_, o', ho, hO⟩ := I.get hm hb ht
                  cases hO with
                  | @map _ es' _ hE =>
                    rw [xk.ground hg]
                    have hO2 : OR T m pl (.map ((⟨es⟩ : Array MapEntry).push { key := k, val := u, born := clk }) (clk + 1)) (.map ((⟨es'⟩ : Array MapEntry).push { key := k, val := u', born := clk }) (clk + 1)) := by
                      simp only [List.push_toArray]
                      exact .map (hE.snoc (n := clk) hg xu)
                    obtain ⟨s1, s2, s3, s4⟩ := setObj_same w ho (fun _ _ _ h => by cases h) hO2.calm
                    refine ⟨undef, m, _, _, ?_, .refl _, .undef m, I.put hm hb F hO2 s1 s2 s3 s4⟩
                    simp only [Instr.mapUpdate, Sem.run_bind, run_under tok hu, Result.andThen_ok, run_getObj (P := P) ho rfl, run_checkKey tok hk, run_findKey (P := P) tok hku (findNow_none hE hf),
                      run_setObj (P := P) ho rfl, Sem.run_pure]
              | some jv =>
                obtain ⟨j, ov⟩ := jv
                injection e with e1 e2; subst e1; subst e2
                refine ⟨put_le _ _ _ hb, fun Γ m hD w F I ⟨xx, xk, xu⟩ => ?_⟩
                have hn := put_noted h r (.map ((⟨es⟩ : Array MapEntry).modify j fun e => { e with key := k, val := u }) clk)
                have ht : Γ.tch r := hn.elim (fun x => (F.hi r x).1) (fun x => F.rd r x.1)
                cases xx with
                | @map _ pl hm =>
                  obtain ⟨_, o', ho, hO⟩ := I.get hm hb ht
                  cases hO with
                  | @map _ es' _ hE =>
                    rw [xk.ground hg]
                    obtain ⟨ov', f1, f2, _, e', f3, f4, f5⟩ := findNow_some hE hf
                    have hO2 : OR T m pl (.map ((⟨es⟩ : Array MapEntry).modify j fun e => { e with key := k, val := u }) clk) (.map ((⟨es'⟩ : Array MapEntry).modify j fun e => { e with key := k, val := u' }) clk) := by
                      have a1 : ∀ (l : List MapEntry) (f : MapEntry → MapEntry), (⟨l⟩ : Array MapEntry).modify j f = ⟨l.modify j f⟩ := fun l f => by
                        apply Array.ext'; simp [Array.toList_modify]
                      rw [a1, a1]
                      exact .map (hE.modify hg xu j)
                    obtain ⟨s1, s2, s3, s4⟩ := setObj_same w ho (fun _ _ _ h => by cases h) hO2.calm
                    refine ⟨undef, m, _, _, ?_, .refl _, .undef m, I.put hm hb F hO2 s1 s2 s3 s4⟩
                    have hkey : ((((⟨es'⟩ : Array MapEntry)[j]?).map (·.key)).getD k) = e'.key := by
                      have : (⟨es'⟩ : Array MapEntry)[j]? = some e' := by simpa using f3
                      rw [this]; rfl
                    simp only [Instr.mapUpdate, Sem.run_bind, run_under tok hu, Result.andThen_ok, run_getObj (P := P) ho rfl, run_checkKey tok hk, run_findKey (P := P) tok hku f1, hkey, Instr.keyThatStays, f5 10000, if_true,
                      run_setObj (P := P) ho rfl, Sem.run_pure]
          | _ => cases e
    · cases e
end Go.Am
/- Each operation of the abstract machine, against the model's: iterators, assertions, small built-in functions. -/
namespace Go.Am
open Go
variable {T : Tab} {P : Program}

theorem newPtr_sound {h h' : H} {o : AObj} {v : Value} (e : newPtr h o = .val v h') : Le h h' ∧ ∀ Γ m hD w o', Fin Γ h' → Inv T Γ m hD h w → (∀ m', MLe m m' → OR T m' ⟨w.heap.size, 0, 0, 0, 1⟩ o o') →
    ∃ m' hD', MLe m m' ∧ VR m' v (.pointer (some ⟨w.heap.size, 0, none⟩)) ∧ Inv T Γ m' hD' h' { w with heap := w.heap.push o' } := by
  injection e with e1 e2; subst e1; subst e2
  refine ⟨new_le _ _, fun Γ m hD w o' F I hO => ?_⟩
  obtain ⟨m', hD', k1, k2, k3⟩ := newObj_sound I (pl := ⟨w.heap.size, 0, 0, 0, 1⟩) F rfl (fun m' hm _ => hO m' hm) (hO m (.refl _)).calm
  exact ⟨m', hD', k1, VR.ptr (off := 0) k2, k3⟩
theorem rangeOf_sound (tok : TabOK T P) {h h' : H} {t : TypeId} {x x' v : Value} (e : rangeOf h (T.under t) (some x) = .val v h') : OpS T P h v h' (fun m => VR m x x') (Instr.range t x') := by
  cases hu : T.under t with
  | none => rw [hu] at e; cases e
  | some d =>
    rw [hu] at e
    unfold rangeOf at e
    split at e
    · rename_i a b h1 h2
      injection h1 with h1; subst h1
      injection h2 with h2; subst h2
      obtain ⟨l, k⟩ := newPtr_sound (T := T) e
      refine ⟨l, fun Γ m hD w F I xx => ?_⟩
      cases xx
      obtain ⟨m', hD', k1, k2, k3⟩ := k Γ m hD w (.mapIter none 0 #[] 0) F I (fun m' _ => .mapIter0 _ _ _ rfl)
      exact ⟨_, m', hD', _, by simp [Instr.range, run_under tok hu], k1, k2, k3⟩
    · rename_i a b r h1 h2
      injection h1 with h1; subst h1
      injection h2 with h2; subst h2
      cases hb : h.get r with
      | none => rw [hb] at e; cases e
      | some o =>
        rw [hb] at e
        cases o with
        | map es clk =>
          have e : newPtr (h.touch r) (.mapIter (some r) clk #[] clk) = .val v h' := e
          obtain ⟨l, k⟩ := newPtr_sound (T := T) e
          refine ⟨(touch_le h r).trans l, fun Γ m hD w F I xx => ?_⟩
          have F1 := F.of_le l
          have ht : Γ.tch r := (touch_noted h r).elim (fun x => (F1.hi r x).1) (F1.rd r)
          cases xx with
          | map hm =>
            obtain ⟨_, o', ho, hO⟩ := I.get hm hb ht
            cases hO with
            | map hE =>
              obtain ⟨m', hD', k1, k2, k3⟩ := k Γ m hD w (.mapIter (some _) clk #[] clk) F (I.touch r) (fun m' hm' => .mapIter _ _ _ (hm'.to _ _ hm) rfl)
              exact ⟨_, m', hD', _, by simp [Instr.range, run_under tok hu, run_getObj (P := P) ho rfl], k1, k2, k3⟩
        | _ => cases e
    · rename_i s h1 h2
      injection h1 with h1; subst h1
      injection h2 with h2; subst h2
      obtain ⟨l, k⟩ := newPtr_sound (T := T) e
      refine ⟨l, fun Γ m hD w F I xx => ?_⟩
      cases xx
      obtain ⟨m', hD', k1, k2, k3⟩ := k Γ m hD w (.stringIter s 0) F I (fun m' _ => .strIter _ _ rfl)
      exact ⟨_, m', hD', _, by simp [Instr.range, run_under tok hu], k1, k2, k3⟩
    · cases e

theorem ER.filter {m : M} (p : Nat → Bool) : ∀ {es es' : List MapEntry}, ER m es es' → ER m (es.filter fun e => p e.born) (es'.filter fun e => p e.born)
  | _, _, .nil => .nil
  | _, _, .cons (n := n) a b c => by
    cases hp : p n with
    | true => simpa [hp] using ER.cons a b (c.filter p)
    | false => simpa [hp] using c.filter p
theorem ER.all {m : M} (p : Nat → Bool) : ∀ {es es' : List MapEntry}, ER m es es' → (es'.all fun e => p e.born) = es.all fun e => p e.born
  | _, _, .nil => rfl
  | _, _, .cons a b c => by simp [c.all p]
theorem ER.length {m : M} : ∀ {es es' : List MapEntry}, ER m es es' → es'.length = es.length
  | _, _, .nil => rfl
  | _, _, .cons a b c => by simp [c.length]
theorem ER.isEmpty {m : M} : ∀ {es es' : List MapEntry}, ER m es es' → es'.isEmpty = es.isEmpty
  | _, _, .nil => rfl
  | _, _, .cons a b c => rfl
theorem ER.find {m : M} {p : Nat → Bool} : ∀ {es es' : List MapEntry} {e : MapEntry}, ER m es es' → es.find? (fun e => p e.born) = some e →
    ∃ v', es'.find? (fun e => p e.born) = some ⟨e.key, v', e.born⟩ ∧ ground e.key = true ∧ VR m e.val v'
  | _, _, _, .nil, h => by simp at h
  | _, _, e, .cons (k := k) (v' := v') (n := n) a b c, h => by
    cases hp : p n with
    | true =>
      simp [hp] at h
      subst h
      exact ⟨v', by simp [hp], a, b⟩
    | false =>
      simp [hp] at h
      obtain ⟨w', h1, h2, h3⟩ := c.find h
      exact ⟨w', by simpa [hp] using h1, h2, h3⟩
theorem entryOf_sound {h h' : H} {x x' v : Value} (e : entryOf h (some x) = .val v h') : OpS T P h v h' (fun m => VR m x x') (Instr.entry x') := by
  unfold entryOf at e
  split at e
  · rename_i r h1
    injection h1 with h1; subst h1
    cases hg : h.get r with
    | none => rw [hg] at e; cases e
    | some o =>
      rw [hg] at e
      cases o with
      | mapIter mb since seen last =>
        cases mb with
        | none => cases e
        | some q =>
          have e : entryIn2 ((h.touch r).touch q) seen last (h.get q) = .val v h' := e
          cases hq : h.get q with
          | none => rw [hq] at e; cases e
          | some oq =>
            rw [hq] at e
            cases oq with
            | map es clk =>
              obtain ⟨es⟩ := es
              unfold entryIn2 at e
              simp only at e
              cases hb : seen.back? with
              | none => rw [hb] at e; cases e
              | some stamp =>
                rw [hb] at e
                simp only at e
                obtain ⟨hc, e⟩ := cond_val (r := entryFind ((h.touch r).touch q) stamp es) e
                have hc := nbeq_true hc
                unfold entryFind at e
                cases hf : es.find? (fun e => e.born == stamp) with
                | none => rw [hf] at e; cases e
                | some en =>
                  rw [hf] at e
                  injection e with e1 e2; subst e1; subst e2
                  refine ⟨(touch_le _ _).trans (touch_le _ _), fun Γ m hD w F I xx => ?_⟩
                  have F1 := F.of_le (touch_le (h.touch r) q)
                  have ht : Γ.tch r := (touch_noted h r).elim (fun x => (F1.hi r x).1) (F1.rd r)
                  have htq : Γ.tch q := (touch_noted (h.touch r) q).elim (fun x => (F.hi q x).1) (F.rd q)
                  cases xx with
                  | @ptr _ _ pl hm =>
                    obtain ⟨_, o', ho, hO⟩ := I.get hm hg ht
                    cases hO with
                    | mapIter _ _ _ hmq hs =>
                      obtain ⟨_, oq', hoq, hOq⟩ := I.get hmq hq htq
                      cases hOq with
                      | @map _ es' _ hE =>
                        obtain ⟨v', f1, f2, f3⟩ := hE.find (p := fun n => n == stamp) hf
                        refine ⟨.tuple #[en.key, v'], m, hD, w, ?_, .refl _, .tuple (.cons (VR.refl_ground m f2) (.cons f3 .nil)), (I.touch r).touch q⟩
                        simp only [hs, Nat.add_zero, Instr.entry, Sem.run_bind, run_getObj (P := P) ho rfl, run_getObj (P := P) hoq rfl, Result.andThen_ok, hb, hc]
                        simp [f1]
            | _ => cases e
      | _ => cases e
  · cases e
theorem nextStr_le {h h' : H} {r : Nat} {s : ByteArray} {pos : Nat} {v : Value} (e : nextStr h r s pos = .val v h') :
    (pos < s.size ∧ v = .tuple #[.bool true, .int .i64 pos, .int .i32 (Utf8.decode s pos).1] ∧ h' = h.put r (.strIter s (pos + (Utf8.decode s pos).2))) ∨ (¬ pos < s.size ∧ v = .tuple #[.bool false] ∧ h' = h.touch r) := by
  unfold nextStr at e
  cases hb : Nat.ble (Nat.succ pos) s.size with
  | true => rw [hb] at e; injection e with e1 e2; exact .inl ⟨nble_true hb, e1.symm, e2.symm⟩
  | false => rw [hb] at e; injection e with e1 e2; exact .inr ⟨by have := nble_false hb; omega, e1.symm, e2.symm⟩
theorem nextOf_sound {h h' : H} {b : Bool} {x x' v : Value} {t : TypeId} (e : nextOf h b (some x) = .val v h') : OpS T P h v h' (fun m => VR m x x') (Instr.next x' b t) := by
  unfold nextOf at e
  split at e
  · rename_i r h1
    injection h1 with h1; subst h1
    cases hg : h.get r with
    | none => rw [hg] at e; cases e
    | some o =>
      rw [hg] at e
      cases o with
      | strIter s pos =>
        have e : cond b (nextStr h r s pos) .fail = .val v h' := e
        obtain ⟨rfl, e⟩ := cond_val e
        rcases nextStr_le e with ⟨hlt, rfl, rfl⟩ | ⟨hlt, rfl, rfl⟩
        · refine ⟨put_le _ _ _ hg, fun Γ m hD w F I xx => ?_⟩
          have hn := put_noted h r (.strIter s (pos + (Utf8.decode s pos).2))
          have ht : Γ.tch r := hn.elim (fun x => (F.hi r x).1) (fun x => F.rd r x.1)
          cases xx with
          | @ptr _ _ pl hm =>
            obtain ⟨_, o', ho, hO⟩ := I.get hm hg ht
            cases hO with
            | strIter _ _ hs =>
              have hO2 : OR T m pl (.strIter s (pos + (Utf8.decode s pos).2)) (.stringIter s (pos + (Utf8.decode s pos).2)) := .strIter _ _ hs
              obtain ⟨s1, s2, s3, s4⟩ := setObj_same w ho (fun _ _ _ h => by cases h) hO2.calm
              refine ⟨.tuple #[.bool true, .int .i64 pos, .int .i32 (Utf8.decode s pos).1], m, _, _, ?_, .refl _, .tuple (.cons (.bool _) (.cons (.int _ _) (.cons (.int _ _) .nil))), I.put hm hg F hO2 s1 s2 s3 s4⟩
              simp only [hs, Nat.add_zero, Instr.next, Sem.run_bind, run_getObj (P := P) ho rfl, Result.andThen_ok, if_pos hlt, run_setObj (P := P) ho rfl, Sem.run_pure, goInt]
        · refine ⟨touch_le _ _, fun Γ m hD w F I xx => ?_⟩
          have ht : Γ.tch r := (touch_noted h r).elim (fun x => (F.hi r x).1) (F.rd r)
          cases xx with
          | @ptr _ _ pl hm =>
            obtain ⟨_, o', ho, hO⟩ := I.get hm hg ht
            cases hO with
            | strIter _ _ hs =>
              refine ⟨.tuple #[.bool false], m, hD, w, ?_, .refl _, .tuple (.cons (.bool _) .nil), I.touch r⟩
              simp only [hs, Nat.add_zero, Instr.next, Sem.run_bind, run_getObj (P := P) ho rfl, Result.andThen_ok, if_neg hlt, Sem.run_pure]
      | mapIter mb since seen last =>
        cases mb with
        | none =>
          have e : cond b .fail (Res.val (.tuple #[.bool false]) (h.touch r)) = .val v h' := e
          cases b with
          | true => cases e
          | false =>
            injection e with e1 e2; subst e1; subst e2
            refine ⟨touch_le _ _, fun Γ m hD w F I xx => ?_⟩
            have ht : Γ.tch r := (touch_noted h r).elim (fun x => (F.hi r x).1) (F.rd r)
            cases xx with
            | @ptr _ _ pl hm =>
              obtain ⟨_, o', ho, hO⟩ := I.get hm hg ht
              cases hO with
              | mapIter0 _ _ _ hs =>
                refine ⟨.tuple #[.bool false], m, hD, w, ?_, .refl _, .tuple (.cons (.bool _) .nil), I.touch r⟩
                simp only [hs, Nat.add_zero, Instr.next, Sem.run_bind, run_getObj (P := P) ho rfl, Result.andThen_ok, Sem.run_pure]
        | some q =>
          have e : cond b .fail (nextMapIn h r q since seen last (h.get q)) = .val v h' := e
          cases b with
          | true => cases e
          | false =>
            have e : nextMapIn h r q since seen last (h.get q) = .val v h' := e
            cases hq : h.get q with
            | none => rw [hq] at e; cases e
            | some oq =>
              rw [hq] at e
              cases oq with
              | map es clk =>
                obtain ⟨es⟩ := es
                unfold nextMapIn at e
                simp only at e
                split at e
                · cases e
                · rename_i hcond
                  have fl : ∀ (l : List MapEntry) (p : MapEntry → Bool), (⟨l⟩ : Array MapEntry).filter p = ⟨l.filter p⟩ := fun l p => by apply Array.ext'; simp
                  simp only [fl] at e
                  split at e
                  · rename_i k1 k2
                    injection e with e1 e2; subst e1; subst e2
                    refine ⟨(touch_le _ _).trans (touch_le _ _), fun Γ m hD w F I xx => ?_⟩
                    have F1 := F.of_le (touch_le (h.touch r) q)
                    have ht : Γ.tch r := (touch_noted h r).elim (fun x => (F1.hi r x).1) (F1.rd r)
                    have htq : Γ.tch q := (touch_noted (h.touch r) q).elim (fun x => (F.hi q x).1) (F.rd q)
                    cases xx with
                    | @ptr _ _ pl hm =>
                      obtain ⟨_, o', ho, hO⟩ := I.get hm hg ht
                      cases hO with
                      | mapIter _ _ _ hmq hs =>
                        obtain ⟨_, oq', hoq, hOq⟩ := I.get hmq hq htq
                        cases hOq with
                        | @map _ es' _ hE =>
                          refine ⟨.tuple #[.bool false], m, hD, w, ?_, .refl _, .tuple (.cons (.bool _) .nil), (I.touch r).touch q⟩
                          have e1 : ((⟨es'⟩ : Array MapEntry).all fun e => decide (e.born ≥ last)) = ((⟨es⟩ : Array MapEntry).all fun e => decide (e.born ≥ last)) := by
                            simpa using hE.all (fun n => decide (n ≥ last))
                          have e2 : (⟨es'⟩ : Array MapEntry).isEmpty = (⟨es⟩ : Array MapEntry).isEmpty := by
                            have := hE.isEmpty
                            cases es <;> cases es' <;> simp_all
                          have hc' : ((!seen.isEmpty && !(⟨es'⟩ : Array MapEntry).isEmpty && (⟨es'⟩ : Array MapEntry).all fun e => decide (e.born ≥ last)) = true) = False := by
                            rw [e1, e2]; exact eq_false hcond
                          have hL := hE.filter (fun n => !seen.contains n)
                          have hOld := hL.filter (fun n => decide (n < since))
                          have hNew := hL.filter (fun n => decide (n ≥ since))
                          have o1 : ((es'.filter fun e => !seen.contains e.born).filter fun e => decide (e.born < since)) = [] := by
                            apply List.eq_nil_of_length_eq_zero; rw [hOld.length]; rw [k1]; rfl
                          have o2 : ((es'.filter fun e => !seen.contains e.born).filter fun e => decide (e.born ≥ since)) = [] := by
                            apply List.eq_nil_of_length_eq_zero; rw [hNew.length]; rw [k2]; rfl
                          simp only [hs, Nat.add_zero, Instr.next, Sem.run_bind, run_getObj (P := P) ho rfl, run_getObj (P := P) hoq rfl, Result.andThen_ok, hc', if_false, fl, o1, o2]
                          simp [Question.forced]
                  · rename_i en k1 k2
                    injection e with e1 e2; subst e1; subst e2
                    refine ⟨(touch_le _ _).trans (put_le _ _ _ (by rw [touch_get]; exact hg)), fun Γ m hD w F I xx => ?_⟩
                    have F1 := F.of_le (put_le (h.touch q) r (.mapIter (some q) since (seen.push en.born) clk) (by rw [touch_get]; exact hg))
                    have hn := put_noted (h.touch q) r (.mapIter (some q) since (seen.push en.born) clk)
                    have ht : Γ.tch r := hn.elim (fun x => (F.hi r x).1) (fun x => F.rd r x.1)
                    have htq : Γ.tch q := (touch_noted h q).elim (fun x => (F1.hi q x).1) (F1.rd q)
                    cases xx with
                    | @ptr _ _ pl hm =>
                      obtain ⟨_, o', ho, hO⟩ := I.get hm hg ht
                      cases hO with
                      | @mapIter _ pq _ _ _ hmq hs =>
                        obtain ⟨_, oq', hoq, hOq⟩ := I.get hmq hq htq
                        cases hOq with
                        | @map _ es' _ hE =>
                          have e1 : ((⟨es'⟩ : Array MapEntry).all fun e => decide (e.born ≥ last)) = ((⟨es⟩ : Array MapEntry).all fun e => decide (e.born ≥ last)) := by
                            simpa using hE.all (fun n => decide (n ≥ last))
                          have e2 : (⟨es'⟩ : Array MapEntry).isEmpty = (⟨es⟩ : Array MapEntry).isEmpty := by
                            have := hE.isEmpty
                            cases es <;> cases es' <;> simp_all
                          have hc' : ((!seen.isEmpty && !(⟨es'⟩ : Array MapEntry).isEmpty && (⟨es'⟩ : Array MapEntry).all fun e => decide (e.born ≥ last)) = true) = False := by
                            rw [e1, e2]; exact eq_false hcond
                          have hL := hE.filter (fun n => !seen.contains n)
                          have hOld := hL.filter (fun n => decide (n < since))
                          have hNew := hL.filter (fun n => decide (n ≥ since))
                          have o2 : ((es'.filter fun e => !seen.contains e.born).filter fun e => decide (e.born ≥ since)) = [] := by
                            apply List.eq_nil_of_length_eq_zero; rw [hNew.length]; rw [k2]; rfl
                          have o1 : ∃ en', ((es'.filter fun e => !seen.contains e.born).filter fun e => decide (e.born < since)) = [en'] ∧ en'.born = en.born ∧ VR m en.key en'.key ∧ VR m en.val en'.val := by
                            have hO1 := hOld
                            have k1' : ((es.filter fun e => !seen.contains e.born).filter fun e => decide (e.born < since)) = [en] := k1
                            rw [k1'] at hO1
                            generalize ((es'.filter fun e => !seen.contains e.born).filter fun e => decide (e.born < since)) = z at hO1 ⊢
                            cases hO1 with
                            | cons a b c => cases c; exact ⟨_, rfl, rfl, VR.refl_ground m a, b⟩
                          obtain ⟨en', o1, b1, b2, b3⟩ := o1
                          have hO2 : OR T m pl (.mapIter (some q) since (seen.push en.born) clk) (.mapIter (some pq.blk) since (seen.push en.born) clk) := .mapIter _ _ _ hmq hs
                          obtain ⟨s1, s2, s3, s4⟩ := setObj_same w ho (fun _ _ _ h => by cases h) hO2.calm
                          refine ⟨.tuple #[.bool true, en'.key, en'.val], m, _, _, ?_, .refl _, .tuple (.cons (.bool _) (.cons b2 (.cons b3 .nil))), (I.touch q).put hm (by rw [touch_get]; exact hg) F hO2 s1 s2 s3 s4⟩
                          simp only [hs, Nat.add_zero, Instr.next, Sem.run_bind, run_getObj (P := P) ho rfl, run_getObj (P := P) hoq rfl, Result.andThen_ok, hc', if_false, fl, o1, o2]
                          simp [Question.forced, run_setObj (P := P) ho rfl, b1]
                  · cases e
              | _ => cases e
      | _ => cases e
  · cases e
end Go.Am
/- Each operation of the abstract machine, against the model's: append. -/
namespace Go.Am
open Go
variable {T : Tab} {P : Program}

/-! ### The first cells of a slice -/
def slBlk : Value → Option Nat
  | .slice (some a) _ _ => some a.block
  | _ => none
theorem touchS_get (h : H) (v : Value) (b : Nat) : (touchS h v).get b = h.get b := by
  unfold touchS; split
  · exact touch_get _ _ _
  · rfl
theorem touchS_next (h : H) (v : Value) : (touchS h v).next = h.next := by
  unfold touchS; split
  · exact touch_next _ _
  · rfl
theorem touchS_le (h : H) (v : Value) : Le h (touchS h v) := by
  unfold touchS; split
  · exact touch_le _ _
  · exact .refl _
theorem touchS_noted (h : H) (v : Value) {b : Nat} (e : slBlk v = some b) : (touchS h v).base ≤ b ∨ (touchS h v).rd.testBit b = true := by
  unfold slBlk at e
  split at e
  · injection e with e; subst e; exact touch_noted _ _
  · cases e
theorem Inv.touchS {Γ : Ctx} {m : M} {hD : Nat → Option AObj} {h : H} {w : World} (I : Inv T Γ m hD h w) (v : Value) : Inv T Γ m hD (Am.touchS h v) w := by
  unfold Am.touchS; split
  · exact I.touch _
  · exact I
theorem LR.flat {m : M} : ∀ {es es' : List Value}, LR m es es' → LR m (es.flatMap cellsL) (es'.flatMap fun x => x.cells.toList)
  | _, _, .nil => .nil
  | _, _, .cons h hl => by simpa using h.cells.append hl.flat
theorem flat_take {f : Value → List Value} {sz : Nat} : ∀ {es : List Value} {j : Nat}, (∀ e ∈ es, (f e).length = sz) → (es.flatMap f).take (j * sz) = (es.take j).flatMap f
  | [], j, _ => by simp
  | x :: es, 0, _ => by simp
  | x :: es, j + 1, h => by
    have hx := h x (by simp)
    have := flat_take (es := es) (j := j) (fun e he => h e (by simp [he]))
    rw [List.flatMap_cons, show (j + 1) * sz = (f x).length + j * sz from by rw [hx, Nat.add_mul]; omega, List.take_length_add_append, this]
    simp
theorem flat_drop {f : Value → List Value} {sz : Nat} : ∀ {es : List Value} {j : Nat}, (∀ e ∈ es, (f e).length = sz) → (es.flatMap f).drop (j * sz) = (es.drop j).flatMap f
  | [], j, _ => by simp
  | x :: es, 0, _ => by simp
  | x :: es, j + 1, h => by
    have hx := h x (by simp)
    have := flat_drop (es := es) (j := j) (fun e he => h e (by simp [he]))
    rw [List.flatMap_cons, show (j + 1) * sz = (f x).length + j * sz from by rw [hx, Nat.add_mul]; omega, List.drop_length_add_append, this]
    simp
theorem firstCells_sound {Γ : Ctx} {m : M} {hD : Nat → Option AObj} {h : H} {w : World} (I : Inv T Γ m hD h w) {sz k : Nat} {v v' : Value} {c : List Value} (e : Am.firstCells h k sz v = some c) (hl : c.length = k * sz)
    (hv : VR m v v') (ht : ∀ b, slBlk v = some b → Γ.tch b) (hk : lenOf v = some k) : ∃ c', (Builtin.firstCells sz k v').run P w = .ok ⟨c'⟩ w ∧ LR m c c' := by
  unfold Am.firstCells at e
  split at e
  · injection e with e; subst e
    cases hv
    exact ⟨[], by simp [Builtin.firstCells], .nil⟩
  · rename_i b off len cap
    cases hg : h.get b with
    | none => rw [hg] at e; cases e
    | some o =>
      rw [hg] at e
      cases o with
      | cells c0 e0 g =>
        have e : cut c0 off (k * sz) = some c := e
        obtain ⟨h1, h2⟩ := cut_eq e
        rcases hv.slice_inv with ⟨pl, cap', hm, hc, rfl⟩ | ⟨h4, h5, pl, a, hm, rfl⟩
        · obtain ⟨c', pre, post, e', R⟩ := I.row hm hg (ht b rfl)
          refine ⟨(c'.drop off).take (k * sz), ?_, ?_⟩
          · have := run_loadCells_mid (P := P) R.heap (off := off) (n := k * sz) (by rw [(R.rel.drop off).length]; exact h1)
            rw [R.pre] at this
            simpa [Builtin.firstCells] using this
          · rw [h2]; exact (R.rel.drop off).take _
        · subst h4
          injection hk with hk
          subst hk
          refine ⟨[], by simp [Builtin.firstCells, loadCells, loadCellsFrom], ?_⟩
          have : c = [] := List.eq_nil_of_length_eq_zero (by rw [hl]; simp)
          rw [this]; exact .nil
      | _ => cases e
  · rename_i off p len es q
    injection e with e; subst e
    injection hk with hk
    obtain ⟨len, rfl⟩ : ∃ j : Nat, j = len := ⟨len, rfl⟩
    obtain ⟨off, rfl⟩ : ∃ j : Nat, j = off := ⟨off, rfl⟩
    subst hk
    cases hv with
    | @data _ es' _ pre post _ _ cap' cc sz0 _ hi h hs hlen hc hkk =>
      obtain ⟨⟨e', f, hw⟩, _⟩ := I.imm _ _ hi
      have hR := ((h.drop off).take len).flat
      have hln := hR.length
      rw [hl] at hln
      have hd : ∀ e ∈ (es'.drop off).take len, e.cells.toList.length = sz0 := fun e he => hs e (List.mem_of_mem_drop (List.mem_of_mem_take he))
      have hflat := flat_length (f := fun x => x.cells.toList) hd
      have hlen' := h.length
      have hcount : ((es'.drop off).take len).length = len := by rw [List.length_take, List.length_drop]; omega
      rw [hcount, hln] at hflat
      refine ⟨((es'.drop off).take len).flatMap (fun x => x.cells.toList), ?_, hR⟩
      have e1 : ((es'.flatMap fun x => x.cells.toList).drop (off * sz0)).take (len * sz) = ((es'.drop off).take len).flatMap (fun x => x.cells.toList) := by
        rw [flat_drop (f := fun x => x.cells.toList) hs, hflat, flat_take (f := fun x => x.cells.toList) (fun e he => hs e (List.mem_of_mem_drop he))]
      have := run_loadCells_mid (P := P) hw (off := off * sz0) (n := len * sz) (by
        rw [flat_drop (f := fun x => x.cells.toList) hs, flat_length (f := fun x => x.cells.toList) (fun e he => hs e (List.mem_of_mem_drop he)), hflat]
        exact Nat.mul_le_mul_right _ (by rw [List.length_drop]; omega))
      rw [e1] at this
      simpa [Builtin.firstCells] using this
    | @data0 _ _ _ _ _ a _ _ =>
      refine ⟨[], ?_, by simpa using LR.nil⟩
      cases a with
      | none => simp [Builtin.firstCells]
      | some a => simp [Builtin.firstCells, loadCells, loadCellsFrom]
  · cases e

theorem growBy_le (newLen : Nat) : ∀ (r c : Nat), c < newLen → Builtin.growBy newLen r c ≤ newLen + (newLen + 768) / 4
  | 0, c, h => by simp only [Builtin.growBy]; omega
  | r + 1, c, h => by
    simp only [Builtin.growBy]
    rw [if_neg (by omega)]
    by_cases hc : c + (c + 768) / 4 < newLen
    · exact growBy_le newLen r _ hc
    · cases r with
      | zero => simp only [Builtin.growBy]; omega
      | succ r => simp only [Builtin.growBy]; rw [if_pos (by omega)]; omega
theorem nextslicecap_le {need cap : Nat} (h : cap < need) : Builtin.nextslicecap need cap ≤ 2 * need + 768 := by
  unfold Builtin.nextslicecap
  split
  · omega
  · split
    · omega
    · have := growBy_le need 4 cap h; omega
theorem zeroCells_length (z : Array Value) (n : Nat) : (Builtin.zeroCells z n).toList.length = n * z.size := by simp [Builtin.zeroCells]

/-- What the model's append does, room or no room. -/
theorem run_append_room (tok : TabOK T P) {ts : Array TypeId} {t : TypeId} {el el2 : TypeId} {sz : Nat} {base' : Option Addr} {sLen sCap' n : Nat} {x' : Value} {c' : List Value} {w w' : World}
    (h0 : underO T ts.toList[0]? = some (.slice el)) (h1 : underO T ts.toList[1]? = some (.slice el2)) (hs : size T el = some sz) (hl : ∀ w, (Builtin.lenOf x').run P w = .ok n w) (hroom : sLen + n ≤ sCap')
    (hx : (Builtin.firstCells sz n x').run P w = .ok ⟨c'⟩ w) (hst : ∀ a, base' = some a → (storeCells (a.add (sLen * sz)) c').run P w = .ok () w') (hnil : base' = none → w' = w) :
    (Builtin.append_ ts t #[.slice base' sLen sCap', x']).run P w = .ok (.slice base' (sLen + n) sCap') w' := by
  cases e0 : ts.toList[0]? with
  | none => rw [e0] at h0; cases h0
  | some t0 =>
    cases e1 : ts.toList[1]? with
    | none => rw [e1] at h1; cases h1
    | some t1 =>
      rw [e0] at h0; rw [e1] at h1
      have g0 : ts[0]? = some t0 := by simpa using e0
      have g1 : ts[1]? = some t1 := by simpa using e1
      have h0 : T.under t0 = some (.slice el) := h0
      have h1 : T.under t1 = some (.slice el2) := h1
      simp only [Builtin.append_, g0, List.getElem?_toArray, List.getElem?_cons_zero, List.getElem?_cons_succ, Sem.run_bind, run_under tok h0, Result.andThen_ok, run_size tok hs, g1, run_under tok h1, Sem.run_pure, Bool.false_eq_true,
        if_false, hl, if_pos hroom, Bool.not_false, if_true, hx]
      cases base' with
      | none => simp [hnil rfl]
      | some a => simp [hst a rfl]
end Go.Am
/- Append of zeros to nothing (draft: to go into AmOps11, before appendOf_sound). -/
namespace Go.Am
open Go
variable {T : Tab} {P : Program}
theorem zeroCells_mem {z : Array Value} {n : Nat} (hz : 0 < z.size) : ∀ v ∈ (Builtin.zeroCells z n).toList, v ∈ z.toList := by
  intro v hv
  simp [Builtin.zeroCells] at hv
  obtain ⟨i, hi, rfl⟩ := hv
  have h : i % z.size < z.size := Nat.mod_lt _ hz
  rw [getElem!_pos z _ h]
  simp
theorem run_append_zeros (tok : TabOK T P) {ts : Array TypeId} {t : TypeId} {el : TypeId} {kk k : IntKind} {i : TypeInfo} {n : Nat} {z : Value} {w : World}
    (h0 : underO T ts.toList[0]? = some (.slice el)) (h1 : underO T ts.toList[1]? = some (.int kk)) (hi : T.info.get el = some i) (hpos : 0 < n) (hsz : 0 < i.size)
    (hb : i.bytes ≤ 65536) (hn : n ≤ 1073741824) (hz : ∀ w, (zeroValue el).run P w = .ok z w) :
    ∃ newCap, n ≤ newCap ∧ (Builtin.append_ ts t #[.slice none 0 0, .int k n]).run P w = .ok (.slice (some ⟨w.heap.size, 0, none⟩) n newCap)
      { w with drawn := w.drawn + 1, heap := w.heap.push (.cells ⟨(Builtin.zeroCells z.cells n).toList ++ (Builtin.zeroCells z.cells (newCap - n)).toList⟩ el (0, 0)) } := by
  cases e0 : ts.toList[0]? with
  | none => rw [e0] at h0; cases h0
  | some t0 =>
    cases e1 : ts.toList[1]? with
    | none => rw [e1] at h1; cases h1
    | some t1 =>
      rw [e0] at h0; rw [e1] at h1
      have g0 : ts[0]? = some t0 := by simpa using e0
      have g1 : ts[1]? = some t1 := by simpa using e1
      have h0 : T.under t0 = some (.slice el) := h0
      have h1 : T.under t1 = some (.int kk) := h1
      have hs : size T el = some i.size := by unfold size; rw [hi]; rfl
      have hti := run_typeInfo (P := P) (tok.info el i hi)
      have hw : IntKind.i64.wrap (n : Int) = n := by simp [IntKind.wrap, IntKind.bits, IntKind.signed]; omega
      have hm : ¬ ((n : Int) * i.bytes > 2 ^ 48) := by
        have : n * i.bytes ≤ 1073741824 * 65536 := Nat.mul_le_mul hn hb
        omega
      have hneg : ¬ ((n : Int) < 0) := by omega
      have hroom : ¬ (0 + n ≤ 0) := by omega
      have hnz : ¬ (n * i.size = 0) := by
        have := Nat.mul_pos hpos hsz; omega
      refine ⟨(Question.appendCap (0 + n) 0 el).cut (w.tape w.drawn (.appendCap (0 + n) 0 el)), by simp only [Question.cut]; omega, ?_⟩
      have hcap : ¬ Builtin.nextslicecap (0 + n) 0 * i.bytes > 2 ^ 48 := by
        have a := nextslicecap_le (need := 0 + n) (cap := 0) (by omega)
        have b : Builtin.nextslicecap (0 + n) 0 * i.bytes ≤ (2 * 1073741824 + 768) * 65536 := Nat.mul_le_mul (by omega) hb
        omega
      have hbig : ¬ ((((0 + n : Nat) : Int) > IntKind.i64.max) ∧ (True ∨ i.bytes = 0)) := by
        rintro ⟨q, _⟩
        simp [IntKind.max, IntKind.signed, IntKind.bits] at q
        omega
      have hai : ∀ w, (Go.asInt (.int k (n : Int))).run P w = .ok (n : Int) w := fun _ => rfl
      have hm' : ¬ (281474976710656 < (n : Int) * i.bytes) := by omega
      have hcap' : ¬ (281474976710656 < Builtin.nextslicecap n 0 * i.bytes) := by simpa using hcap
      have hn0 : ¬ n = 0 := by omega
      have hs0 : ¬ i.size = 0 := by omega
      have hbig' : ¬ (9223372036854775807 < (n : Int)) := by omega
      simp [Builtin.append_, g0, g1, run_under tok h0, run_under tok h1, run_size tok hs, hti, hw, hm, hneg, hroom, hnz, hbig, hcap, run_choose, Question.forced, run_askRoom, hz, run_newRow, hai, hm', hcap', hn0, hs0, hbig', Builtin.firstCells]
      have hcat : ∀ a b : Array Value, a ++ b = ⟨a.toList ++ b.toList⟩ := fun a b => by apply Array.ext'; simp
      rw [hcat]
      rfl
end Go.Am
/- Append of zeros to nothing, of the machine (to be named in appendOf_sound). -/
namespace Go.Am
open Go
variable {T : Tab} {P : Program}
theorem appendNewZ_inv {Γ : Ctx} {m : M} {hD : Nat → Option AObj} {hh : H} {w : World} (I : Inv T Γ m hD hh w) {cs cs' rest : List Value} {el : TypeId} {need sz newCap : Nat} (F : Fin Γ (hh.new (.cells cs el true)))
    (hc : LR m cs cs') (hlen : cs.length = need * sz) (hsz : size T el = some sz) (hpos : 0 < sz) (hcap : need ≤ newCap) (hrest : rest.length = (newCap - need) * sz) :
    ∃ m' hD', MLe m m' ∧ VR m' (.slice (some ⟨hh.next, 0, none⟩) need need) (.slice (some ⟨w.heap.size, 0, none⟩) need newCap) ∧
      Inv T Γ m' hD' (hh.new (.cells cs el true)) { w with drawn := w.drawn + 1, heap := w.heap.push (.cells ⟨cs' ++ rest⟩ el (0, 0)) } := by
  have I' : Inv T Γ m hD hh { w with drawn := w.drawn + 1 } := I.world rfl ⟨fun _ => rfl, rfl, rfl, rfl⟩
  obtain ⟨m', hD', k1, k2, k3⟩ := newObj_sound I' (o' := .cells ⟨cs' ++ rest⟩ el (0, 0)) (pl := ⟨w.heap.size, 0, need * sz, (newCap - need) * sz, sz⟩) F rfl (fun m' hm _ => by
    have := OR.cells (T := T) (m := m') (pl := ⟨w.heap.size, 0, need * sz, (newCap - need) * sz, sz⟩) (pre := []) (post := rest) (e := el) (e' := el) (g := true) (hc.mono hm) rfl hlen (Nat.le_of_eq hrest.symm) (fun h => by cases h) hpos (fun _ => hsz)
    simpa using this) (fun _ _ _ h => by injection h with _ _ h; exact h.symm)
  refine ⟨m', hD', k1, VR.slice (off := 0) k2 (.inr ⟨by simp, ?_⟩), k3⟩
  have : newCap * sz = need * sz + (newCap - need) * sz := by rw [← Nat.add_mul]; congr 1; omega
  simpa using this
theorem allGround_memZ : ∀ {l : List Value}, allGround l = true → ∀ v ∈ l, ground v = true
  | [], _, v, hv => by cases hv
  | x :: l, h, v, hv => by
    rw [allGround_cons] at h
    cases e : Am.ground x with
    | false => rw [e] at h; cases h
    | true =>
      rw [e] at h
      rcases List.mem_cons.1 hv with rfl | hv
      · exact e
      · exact allGround_memZ h v hv
theorem appendZeros_sound (tok : TabOK T P) {h h' : H} {ts : Array TypeId} {t : TypeId} {s' x x' v : Value} {el : TypeId} {kk : IntKind} (h0 : underO T ts.toList[0]? = some (.slice el)) (h1 : underO T ts.toList[1]? = some (.int kk))
    (e : appendZeros h el x (T.info.get el) (zeroN T el) = .val v h') : OpS T P h v h' (fun m => VR m (.slice none 0 0) s' ∧ VR m x x') (Builtin.append_ ts t #[s', x']) := by
  cases hi : T.info.get el with
  | none => rw [hi] at e; unfold appendZeros at e; split at e <;> simp_all
  | some i =>
  cases hzn : zeroN T el with
  | none => rw [hi, hzn] at e; unfold appendZeros at e; split at e <;> simp_all
  | some zz =>
  rw [hi, hzn] at e
  unfold appendZeros at e
  split at e
  case h_2 => cases e
  rename_i k n i' z' e1 e2
  injection e1 with e1; subst e1
  injection e2 with e2; subst e2
  obtain ⟨c, e⟩ := cond_val (r := appendNew h el (n + 1) (Builtin.zeroCells ⟨zz⟩ (n + 1)).toList) e
  cases hz0 : Nat.beq i.size 0 with
  | true => rw [hz0] at c; cases c
  | false =>
  rw [hz0] at c
  obtain ⟨c1, c2⟩ := cond_both c
  have hpos : 0 < i.size := Nat.pos_of_ne_zero (nbeq_false hz0)
  have hbytes := nble_true c1
  have hneed : n + 1 ≤ 1073741824 := nble_true c2
  obtain ⟨i2, z, y1, y2, y3, y4, y5, y6⟩ := zeroN_ok tok hzn
  rw [hi] at y1; injection y1 with y1; subst y1
  have hzl : z.cells.size = i.size := by rw [← y4, y3, ← cells_toList]; simp
  have hsz : size T el = some i.size := by unfold size; rw [hi]; rfl
  have hza : (⟨zz⟩ : Array Value) = z.cells := by rw [y3, ← cells_toList]
  rw [hza] at e
  have e : Res.val (.slice (some ⟨h.next, 0, none⟩) (n + 1) (n + 1)) (h.new (.cells (Builtin.zeroCells z.cells (n + 1)).toList el true)) = .val v h' := e
  injection e with q1 q2
  subst q1; subst q2
  refine ⟨new_le _ _, fun Γ m hD w F I hx => ?_⟩
  obtain ⟨xs, xx⟩ := hx
  cases xs
  cases xx
  obtain ⟨newCap, k5, k6⟩ := run_append_zeros (P := P) (t := t) (k := k) (w := w) tok h0 h1 hi (n := n + 1) (by omega) hpos hbytes hneed y6
  obtain ⟨m', hD', j1, j2, j3⟩ := appendNewZ_inv (rest := (Builtin.zeroCells z.cells (newCap - (n + 1))).toList) I F (LR.map_refl fun v hv => VR.refl_ground m (allGround_memZ (groundDeep_cells y5) v (by
    have := zeroCells_mem (z := z.cells) (by omega) v hv
    rw [← cells_toList]; exact this))) (by rw [zeroCells_length, hzl]) hsz hpos k5 (by rw [zeroCells_length, hzl])
  exact ⟨_, m', hD', _, k6, j1, j2, j3⟩
end Go.Am
