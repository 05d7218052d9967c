/- Each operation of the abstract machine, against the model's: addresses, parts, plain computations. -/
import Derived.Test.YtkdfgoimgcegfaaGreatDoorAmOps
set_option linter.unusedSectionVars false
set_option linter.unusedSimpArgs false
set_option linter.unusedVariables false
namespace Go.Am
open Go
variable {T : Tab} {P : Program}

theorem pureRun_ok {α : Type} {p : Program} : ∀ {s : Sem α} {a : α}, pureRun p s = some a → ∀ w, s.run p w = .ok a w
  | .pure b, a, h, w => by injection h with h; subst h; rfl
  | .program k, a, h, w => by
    have h : pureRun p (k p) = some a := h
    exact pureRun_ok (s := k p) h w
  | .load .., _, h, _ => by cases h
  | .store .., _, h, _ => by cases h
  | .new .., _, h, _ => by cases h
  | .shape .., _, h, _ => by cases h
  | .freeze .., _, h, _ => by cases h
  | .frozen .., _, h, _ => by cases h
  | .getObj .., _, h, _ => by cases h
  | .setObj .., _, h, _ => by cases h
  | .choose .., _, h, _ => by cases h
  | .sys .., _, h, _ => by cases h
  | .mark .., _, h, _ => by cases h
  | .halt .., _, h, _ => by cases h

theorem cond_val {c : Bool} {r : Res} {v : Value} {h : H} (e : cond c r .fail = .val v h) : c = true ∧ r = .val v h := by
  cases c with
  | true => exact ⟨rfl, e⟩
  | false => cases e
theorem onB_val {c : Bool} {r : Res} {v : Value} {h : H} (e : onB .fail r c = .val v h) : c = true ∧ r = .val v h := by
  cases c with
  | true => exact ⟨rfl, e⟩
  | false => cases e
theorem cond_both {a b : Bool} (e : cond a b false = true) : a = true ∧ b = true := by
  cases a with
  | true => exact ⟨rfl, e⟩
  | false => cases e

theorem vresG_val {h h' : H} {o : Option Value} {v : Value} (e : vresG h o = .val v h') : o = some v ∧ h' = h ∧ groundDeep v = true := by
  cases o with
  | none => cases e
  | some x =>
    have e : onB .fail (Res.val x h) (groundDeep x) = .val v h' := e
    obtain ⟨e0, e⟩ := onB_val e
    injection e with e1 e2; subst e1; exact ⟨rfl, e2.symm, e0⟩
/-- A computation of the model's that needs no memory, on values without addresses. -/
theorem pure_sound (tok : TabOK T P) {h h' : H} {s s' : Sem Value} {v : Value} {X : M → Prop} (e : vresG h (pureRun T.prog s) = .val v h') (hs : ∀ m, X m → s' = s) : OpS T P h v h' X s' := by
  obtain ⟨e1, rfl, hg⟩ := vresG_val e
  rw [tok.prog] at e1
  exact OpS.quiet fun m x => ⟨v, VR.refl_deep m hg, by rw [hs m x]; exact pureRun_ok e1⟩

/-! ### Addresses -/
theorem VR.add {m : M} {b off n : Nat} {a' : Value} (h : VR m (.pointer (some ⟨b, off, none⟩)) a') : ∃ x : Addr, a' = .pointer (some x) ∧ VR m (.pointer (some ((⟨b, off, none⟩ : Addr).add n))) (.pointer (some (x.add n))) := by
  cases h with
  | ptr hm =>
    refine ⟨_, rfl, ?_⟩
    rw [addr_add, addr_add, Nat.add_assoc]
    exact .ptr hm
theorem VR.addr {m : M} {a : Addr} {a' : Value} (h : VR m (.pointer (some a)) a') : a.spot = none := by cases h; rfl

theorem flat_split {f : Value → List Value} : ∀ {es : List Value} {j : Nat} {e : Value}, es[j]? = some e → es.flatMap f = (es.take j).flatMap f ++ (f e ++ (es.drop (j + 1)).flatMap f)
  | [], j, e, h => by simp at h
  | x :: es, 0, e, h => by simp at h; subst h; simp
  | x :: es, j + 1, e, h => by
    have := flat_split (f := f) (es := es) (j := j) (by simpa using h)
    simp [this]
theorem flat_length {f : Value → List Value} {sz : Nat} : ∀ {es : List Value}, (∀ e ∈ es, (f e).length = sz) → (es.flatMap f).length = es.length * sz
  | [], _ => by simp
  | x :: es, h => by
    have := flat_length (es := es) (fun e he => h e (by simp [he]))
    simp only [List.flatMap_cons, List.length_append, this, h x (by simp), List.length_cons, Nat.add_mul, Nat.one_mul]
    omega
/-- An element of data, its address. -/
theorem data_elem {m : M} {es es' pre post : List Value} {c sz j : Nat} {e : Value} (hi : m.im c = some (pre ++ (es'.flatMap (·.cells.toList) ++ post))) (h : LR m es es') (hs : ∀ e ∈ es', e.cells.toList.length = sz) (hj : es[j]? = some e)
    (p : Array FieldStep) (k : FuncId) (q : Array Value) : (cellsL e).length = sz ∧ VR m (.func (.via 0 p k true) ⟨[e]⟩ q) (.pointer (some ⟨c, pre.length + j * sz, none⟩)) := by
  obtain ⟨e', h1, h2⟩ := h.get hj
  have hmem : e' ∈ es' := List.mem_of_getElem? h1
  have hlt : j < es'.length := (List.getElem?_eq_some_iff.1 h1).1
  refine ⟨by rw [← h2.cells.length]; exact hs e' hmem, ?_⟩
  have hl : (pre ++ (es'.take j).flatMap (fun x => x.cells.toList)).length = pre.length + j * sz := by
    rw [List.length_append, flat_length (f := fun x => x.cells.toList) (sz := sz) (fun x hx => hs x (List.mem_of_mem_take hx)), List.length_take, Nat.min_eq_left (Nat.le_of_lt hlt)]
  have := VR.dataPtr (m := m) (e := e) (e' := e') (pre := pre ++ (es'.take j).flatMap (fun x => x.cells.toList)) (post := (es'.drop (j + 1)).flatMap (fun x => x.cells.toList) ++ post) (f := 0) (c := c) (p := p) (k := k) (q := q) (by
    rw [hi, flat_split (f := fun x => x.cells.toList) h1]; simp) h2
  rw [hl] at this
  exact this
theorem fieldData_sound (tok : TabOK T P) {h h' : H} {s : TypeId} {f : Nat} {x x' v : Value} (e : fieldData T h s f (some x) = .val v h') :
    OpS T P h v h' (fun m => VR m x x') (Instr.fieldAt s x' f) := by
  have e : (match ptrTo x with
    | .data e o => match fieldAt (T.under s) f with
      | some fd => fieldDataBy h e o fd.offset (size T fd.type)
      | none => .fail
    | _ => .fail) = Res.val v h' := e
  cases hp : ptrTo x with
  | no => rw [hp] at e; cases e
  | to b off => rw [hp] at e; cases e
  | data el o =>
    rw [hp] at e
    obtain ⟨p, k, q, rfl⟩ := ptrTo_data hp
    have e : (match fieldAt (T.under s) f with
      | some fd => fieldDataBy h el o fd.offset (size T fd.type)
      | none => .fail) = Res.val v h' := e
    cases hf : fieldAt (T.under s) f with
    | none => rw [hf] at e; cases e
    | some fd =>
      rw [hf] at e
      have e : fieldDataBy h el o fd.offset (size T fd.type) = .val v h' := e
      cases hs : size T fd.type with
      | none => rw [hs] at e; cases e
      | some n =>
        rw [hs] at e
        cases n with
        | zero => cases e
        | succ n =>
          injection e with e1 e2; subst e1; subst e2
          cases hu : T.under s with
          | none => rw [hu] at hf; cases hf
          | some d =>
            rw [hu] at hf
            cases d with
            | struct fs =>
              have hf : fs.toList[f]? = some fd := hf
              refine OpS.quiet fun m hv => ?_
              cases hv with
              | @dataPtr _ e' pre post _ c _ _ _ hi hx =>
                refine ⟨.pointer (some ⟨c, pre.length + (o + fd.offset), none⟩), .dataPtr hi hx, fun w => ?_⟩
                have hf' : fs[f]? = some fd := by simpa using hf
                simp [Instr.fieldAt, run_under tok hu, hf', Instr.sureAddr, Go.fieldPlace, run_size tok hs, addr_add, Nat.add_assoc]
            | _ => cases hf
theorem fieldAddrOf_sound (tok : TabOK T P) {h h' : H} {s : TypeId} {f : Nat} {x x' v : Value} (e : fieldAddrOf T h s f (some x) = .val v h') :
    OpS T P h v h' (fun m => VR m x x') (Instr.fieldAt s x' f) := by
  have e : onO (β := Tab → H → TypeId → Nat → Option Value → Res) (fun T h s f x => fieldData T h s f x)
    (fun a T h s f _ => onO (β := Tab → H → Addr → Res) (fun _ _ _ => .fail) (fun fd T h a => fieldAddrBy h a fd.offset (size T fd.type)) (fieldAt (T.under s) f) T h a)
    (Am.asAddr x) T h s f (some x) = .val v h' := e
  cases ha : Am.asAddr x with
  | none => rw [ha] at e; exact fieldData_sound tok e
  | some a =>
    rw [ha] at e
    have hx : x = .pointer (some a) := by
      cases x with
      | pointer y => have ha : y = some a := ha; rw [ha]
      | _ => cases ha
    subst hx
    have e : onO (β := Tab → H → Addr → Res) (fun _ _ _ => .fail) (fun fd T h a => fieldAddrBy h a fd.offset (size T fd.type)) (fieldAt (T.under s) f) T h a = .val v h' := e
    cases hf : fieldAt (T.under s) f with
    | none => rw [hf] at e; cases e
    | some fd =>
      rw [hf] at e
      have e : fieldAddrBy h a fd.offset (size T fd.type) = .val v h' := e
      cases hs : size T fd.type with
      | none => rw [hs] at e; cases e
      | some n =>
        rw [hs] at e
        cases n with
        | zero => cases e
        | succ n =>
          injection e with e1 e2; subst e1; subst e2
          cases hu : T.under s with
          | none => rw [hu] at hf; cases hf
          | some d =>
            rw [hu] at hf
            cases d with
            | struct fs =>
              have hf : fs.toList[f]? = some fd := hf
              refine OpS.quiet fun m hv => ?_
              obtain ⟨b, off, sp⟩ := a
              have := hv.addr
              have hsp : sp = none := this
              subst hsp
              obtain ⟨y, rfl, k⟩ := hv.add (n := fd.offset)
              refine ⟨_, k, fun w => ?_⟩
              have hf' : fs[f]? = some fd := by simpa using hf
              simp [Instr.fieldAt, run_under tok hu, hf', Instr.sureAddr, Go.fieldPlace, run_size tok hs]
            | _ => cases hf
theorem fieldOf_sound (tok : TabOK T P) {h h' : H} {t : TypeId} {f : Nat} {x x' v : Value} (e : fieldOf T h f (T.under t) (some x) = .val v h') :
    OpS T P h v h' (fun m => VR m x x') (Instr.field t x' f) := by
  cases hu : T.under t with
  | none => rw [hu] at e; cases e
  | some d =>
    rw [hu] at e
    unfold fieldOf at e
    split at e
    · rename_i fs cs h1 h2
      injection h1 with h1; subst h1
      injection h2 with h2; subst h2
      split at e
      · rename_i fd hf
        obtain ⟨e1, rfl⟩ := vres_val e
        refine OpS.quiet fun m hv => ?_
        obtain ⟨l⟩ := cs
        cases hv with
        | agg hl =>
          obtain ⟨v', k1, k2⟩ := part_sound tok e1 hl
          have hf' : fs[f]? = some fd := by simpa using hf
          exact ⟨v', k1, fun w => by simp [Instr.field, run_under tok hu, hf', asAgg, k2]⟩
      · cases e
    · cases e

theorem VR.slice_inv {m : M} {b off len cap : Nat} {x' : Value} (h : VR m (.slice (some ⟨b, off, none⟩) len cap) x') :
    (∃ pl cap', m b = some pl ∧ CapOK pl off cap cap' ∧ x' = .slice (some ⟨pl.blk, pl.sh + off, none⟩) len cap') ∨ (len = 0 ∧ cap = 0 ∧ ∃ pl a, m b = some pl ∧ x' = .slice (some a) 0 0) := by
  cases h with
  | slice hm hc => exact .inl ⟨_, _, hm, hc, rfl⟩
  | empty hm => exact .inr ⟨rfl, rfl, _, _, hm, rfl⟩
theorem indexAddrOf_sound (tok : TabOK T P) {h h' : H} {t : TypeId} {x x' i i' v : Value} (e : indexAddrOf T h (T.under t) (some x) (some i) = .val v h') :
    OpS T P h v h' (fun m => VR m x x' ∧ VR m i i') (Instr.indexAt t x' i') := by
  cases hu : T.under t with
  | none => rw [hu] at e; cases e
  | some d =>
    rw [hu] at e
    unfold indexAddrOf at e
    split at e
    · rename_i el a len cap k n h1 h2 h3
      injection h1 with h1; subst h1
      injection h2 with h2; subst h2
      injection h3 with h3; subst h3
      cases hs : size T el with
      | none => rw [hs] at e; cases e
      | some sz =>
        rw [hs] at e
        obtain ⟨hb, e⟩ := cond_val e
        injection e with e1 e2; subst e1; subst e2
        have hlt := nble_true hb
        refine OpS.quiet fun m hv => ?_
        obtain ⟨hx, hi⟩ := hv
        cases hi
        cases hx with
          | @slice b off _ _ cap' pl hm hc =>
            refine ⟨.pointer (some ((⟨pl.blk, pl.sh + off, none⟩ : Addr).add (n * sz))), by rw [addr_add, addr_add, Nat.add_assoc]; exact .ptr hm, fun w => ?_⟩
            have hin : (0 : Int) ≤ Int.ofNat n ∧ Int.ofNat n < (len : Int) := ⟨by simp, by simp; omega⟩
            simp only [Instr.indexAt, asIntOf, Sem.run_bind, Sem.run_pure, Result.andThen_ok, run_under tok hu, if_pos hin, run_size tok hs]
            simp
          | empty hm => omega
    · rename_i len el a k n h1 h2 h3
      injection h1 with h1; subst h1
      injection h2 with h2; subst h2
      injection h3 with h3; subst h3
      cases hs : size T el with
      | none => rw [hs] at e; cases e
      | some sz =>
        rw [hs] at e
        obtain ⟨hb, e⟩ := cond_val e
        injection e with e1 e2; subst e1; subst e2
        have hlt := nble_true hb
        refine OpS.quiet fun m hv => ?_
        obtain ⟨hx, hi⟩ := hv
        cases hi
        obtain ⟨b, off, sp⟩ := a
        have hsp : sp = none := hx.addr
        subst hsp
        obtain ⟨y, rfl, kk⟩ := hx.add (n := n * sz)
        refine ⟨_, kk, fun w => ?_⟩
        have hin : (0 : Int) ≤ Int.ofNat n ∧ Int.ofNat n < (len : Int) := ⟨by simp, by simp; omega⟩
        simp only [Instr.indexAt, asIntOf, Sem.run_bind, Sem.run_pure, Result.andThen_ok, run_under tok hu, Instr.sureAddr, if_pos hin, run_size tok hs]
        simp
    · -- data
      rename_i el off p len es q k n h1 h2 h3
      injection h1 with h1; subst h1
      injection h2 with h2; subst h2
      injection h3 with h3; subst h3
      cases hs : size T el with
      | none => rw [hs] at e; cases e
      | some sz =>
        rw [hs] at e
        obtain ⟨hb, e⟩ := cond_val (r := indexDataIn h sz es[Nat.add off n]?) e
        have hlt := nble_true hb
        cases hel : es[Nat.add off n]? with
        | none => rw [hel] at e; cases e
        | some el' =>
          rw [hel] at e
          obtain ⟨hc, e⟩ := cond_val (r := Res.val (dptr el' 0) h) e
          have hc := nbeq_true hc
          rw [lenL_eq] at hc
          injection e with e1 e2; subst e1; subst e2
          refine OpS.quiet fun m hv => ?_
          obtain ⟨hx, hi⟩ := hv
          cases hi
          have hin : (0 : Int) ≤ Int.ofNat n ∧ Int.ofNat n < (len : Int) := ⟨by simp, by simp; omega⟩
          cases hx with
          | @data _ es' _ pre post _ _ cap' c sz0 _ hi h hsz hl hcap hk =>
            obtain ⟨k1, k2⟩ := data_elem hi h hsz hel #[] 0 #[]
            have : sz0 = sz := by omega
            subst this
            refine ⟨_, k2, fun w => ?_⟩
            simp only [Instr.indexAt, asIntOf, Sem.run_bind, Sem.run_pure, Result.andThen_ok, run_under tok hu, if_pos hin, run_size tok hs, addr_add]
            simp [Nat.add_assoc]
            exact (Nat.add_mul _ _ _).symm
          | data0 _ _ => omega
    · cases e

theorem indexOf_sound (tok : TabOK T P) {h h' : H} {t : TypeId} {x x' i i' v : Value} (e : indexOf T h t (T.under t) (some x) (some i) = .val v h') :
    OpS T P h v h' (fun m => VR m x x' ∧ VR m i i') (Instr.index t x' i') := by
  cases hu : T.under t with
  | none => rw [hu] at e; cases e
  | some d =>
    rw [hu] at e
    unfold indexOf at e
    split at e
    · rename_i s k n h1 h2 h3
      injection h2 with h2; subst h2
      injection h3 with h3; subst h3
      exact pure_sound tok e (fun m hv => by obtain ⟨hx, hi⟩ := hv; cases hx; cases hi; rfl)
    · rename_i len el cs k n h1 h2 h3
      injection h1 with h1; subst h1
      injection h2 with h2; subst h2
      injection h3 with h3; subst h3
      cases hs : size T el with
      | none => rw [hs] at e; cases e
      | some sz =>
        rw [hs] at e
        obtain ⟨hb, e⟩ := cond_val e
        obtain ⟨e1, rfl⟩ := vres_val e
        have hlt := nble_true hb
        refine OpS.quiet fun m hv => ?_
        obtain ⟨hx, hi⟩ := hv
        cases hi
        obtain ⟨l⟩ := cs
        cases hx with
        | agg hl =>
          obtain ⟨v', k1, k2⟩ := part_sound tok e1 hl
          refine ⟨v', k1, fun w => ?_⟩
          have hin : (0 : Int) ≤ Int.ofNat n ∧ Int.ofNat n < (len : Int) := ⟨by simp, by simp; omega⟩
          simp only [Instr.index, asIntOf, Sem.run_bind, Sem.run_pure, Result.andThen_ok, run_under tok hu, if_pos hin, run_size tok hs]
          simpa using k2 w
    · cases e
end Go.Am
/- Each operation of the abstract machine, against the model's: operators, interfaces, tuples. -/
namespace Go.Am
open Go
variable {T : Tab} {P : Program}

theorem asInt_yes {v : Value} {k : IntKind} {n : Int} (e : Am.asInt v = .yes k n) : v = .int k n := by
  cases v with
  | int k' n' => injection e with e1 e2; subst e1; subst e2; rfl
  | _ => cases e
theorem run_eqGuard_int (w : World) (op : BinOp) (t : TypeId) (x y : Operand) (k k' : IntKind) (a b : Int) : (eqGuard op t x y (.int k a) (.int k' b)).run P w = .ok () w := by
  cases op <;> simp [eqGuard]
theorem intBin_sound {op : BinOp} {k : IntKind} {a b : Int} {v : Value} (e : intBin op k a b = some v) (t : TypeId) (w : World) :
    (binOp op t (.int k a) (.int k b)).run P w = .ok v w ∧ groundDeep v = true := by
  cases op <;> first
    | (cases e; done)
    | (injection e with e; subst e; exact ⟨by simp [binOp, Op.intArith, Op.intCmp], rfl⟩)
theorem binInt_sound (tok : TabOK T P) {h h' : H} {op : BinOp} {t : TypeId} {x y : Operand} {k k' : IntKind} {a b : Int} {v : Value} (e : binInt T h op t k k' a b = .val v h') {X : M → Prop} :
    OpS T P h v h' X (do eqGuard op t x y (.int k a) (.int k' b); binOp op t (.int k a) (.int k' b)) := by
  obtain ⟨hk0, e'⟩ := onB_val e
  have hk := of_decide_eq_true hk0
  clear hk0 e
  subst hk
  have e := e'
  cases hi : intBin op k a b with
  | some u =>
    rw [hi] at e
    have e : Res.val u h = .val v h' := e
    injection e with e1 e2; subst e1; subst e2
    exact OpS.quiet fun m _ => ⟨u, VR.refl_deep m (intBin_sound (P := P) hi t default).2, fun w => by
      simp only [Sem.run_bind, run_eqGuard_int, Result.andThen_ok, (intBin_sound (P := P) hi t w).1]⟩
  | none =>
    rw [hi] at e
    have e : vresG h (pureRun T.prog (binOp op t (.int k a) (.int k b))) = .val v h' := e
    obtain ⟨e1, rfl, hg⟩ := vresG_val e
    rw [tok.prog] at e1
    exact OpS.quiet fun m _ => ⟨v, VR.refl_deep m hg, fun w => by
      simp only [Sem.run_bind, run_eqGuard_int, Result.andThen_ok, pureRun_ok e1 w]⟩

/-- Against nil. -/
theorem nilKind_sound (tok : TabOK T P) {t : TypeId} {a b a' b' : Value} {r : Bool} (e : nilKind T t a b = some r) {m : M} (ha : VR m a a') (hb : VR m b b') (w : World) (op : BinOp) (x y : Operand) :
    (eqGuard op t x y a' b').run P w = .ok () w ∧ (binOp .eql t a' b').run P w = .ok (.bool r) w ∧ (binOp .neq t a' b').run P w = .ok (.bool !r) w := by
  have key : (∀ d, (Op.equalIn (d + 1) t a' b').run P w = .ok r w) ∧ (eqGuard op t x y a' b').run P w = .ok () w ∧ binOp .eql t a' b' = (do pure (.bool (← Op.equal t a' b'))) ∧ binOp .neq t a' b' = (do pure (.bool !(← Op.equal t a' b'))) := by
    unfold nilKind at e
    split at e
    case h_12 => cases e
    case h_11 =>
      rename_i el x1 x2 len x4 caps x5 x6 hu
      cases hb
      cases ha with
      | data hi h hs hl hc hk =>
        cases len with
        | zero => rcases hk with rfl | rfl <;> cases e
        | succ n =>
          injection e with e
          subst e
          exact ⟨fun d => by simp only [Op.equalIn, Sem.run_bind, run_under tok hu, Result.andThen_ok, Sem.run_pure, Option.isNone_none, Option.isNone_some], by cases op <;> simp [eqGuard], rfl, rfl⟩
      | data0 ha hk =>
        rcases hk with rfl | rfl | rfl
        · cases e
        · cases e
        · injection e with e
          subst e
          rename_i a
          cases a <;> exact ⟨fun d => by simp only [Op.equalIn, Sem.run_bind, run_under tok hu, Result.andThen_ok, Sem.run_pure, Option.isNone_none, Option.isNone_some], by cases op <;> simp [eqGuard], rfl, rfl⟩
    all_goals
      rename_i hu
      injection e with e
      subst e
      cases ha <;> cases hb <;>
        exact ⟨fun d => by simp only [Op.equalIn, Sem.run_bind, run_under tok hu, Result.andThen_ok, Sem.run_pure, Option.isNone_none, Option.isNone_some], by cases op <;> simp [eqGuard], rfl, rfl⟩
  obtain ⟨k1, k2, k3, k4⟩ := key
  have k : (Op.equal t a' b').run P w = .ok r w := k1 9999
  exact ⟨k2, by rw [k3]; simp only [Sem.run_bind, k, Result.andThen_ok, Sem.run_pure], by rw [k4]; simp only [Sem.run_bind, k, Result.andThen_ok, Sem.run_pure]⟩

theorem binSlow_sound (tok : TabOK T P) {h h' : H} {op : BinOp} {t : TypeId} {x y : Operand} {a b a' b' v : Value} (e : binSlow T h op t x y a b = .val v h') :
    OpS T P h v h' (fun m => VR m a a' ∧ VR m b b') (do eqGuard op t x y a' b'; binOp op t a' b') := by
  unfold binSlow at e
  cases hg : cond (ground a) (ground b) false with
  | true =>
    rw [hg] at e
    obtain ⟨g1, g2⟩ := cond_both hg
    have e : vresG h (pureRun T.prog (do eqGuard op t x y a b; binOp op t a b)) = .val v h' := e
    exact pure_sound tok e (fun m ⟨xa, xb⟩ => by rw [xa.ground g1, xb.ground g2])
  | false =>
    rw [hg] at e
    have e : binFar T h op t x y a b (cond (groundDeep a) (groundDeep b) false) (nilKind T t a b) = .val v h' := e
    cases hn : nilKind T t a b with
    | some r =>
      rw [hn] at e
      cases op with
      | eql =>
        injection e with e1 e2; subst e1; subst e2
        exact OpS.quiet fun m ⟨xa, xb⟩ => ⟨_, .bool _, fun w => by
             obtain ⟨k1, k2, k3⟩ := nilKind_sound tok hn xa xb w .eql x y
             simp only [Sem.run_bind, k1, k2, Result.andThen_ok]⟩
      | neq =>
        injection e with e1 e2; subst e1; subst e2
        exact OpS.quiet fun m ⟨xa, xb⟩ => ⟨_, .bool _, fun w => by
             obtain ⟨k1, k2, k3⟩ := nilKind_sound tok hn xa xb w .neq x y
             simp only [Sem.run_bind, k1, k3, Result.andThen_ok]⟩
      | _ => cases e
    | none =>
      rw [hn] at e
      have e : cond (cond (groundDeep a) (groundDeep b) false) (vresG h (pureRun T.prog (do eqGuard op t x y a b; binOp op t a b))) .fail = .val v h' := e
      obtain ⟨hc, e⟩ := cond_val e
      obtain ⟨g1, g2⟩ := cond_both hc
      exact pure_sound tok e (fun m ⟨xa, xb⟩ => by rw [xa.groundDeep g1, xb.groundDeep g2])
theorem binV_sound (tok : TabOK T P) {h h' : H} {op : BinOp} {t : TypeId} {x y : Operand} {a b a' b' v : Value} (e : binV T h op t x y a b = .val v h') :
    OpS T P h v h' (fun m => VR m a a' ∧ VR m b b') (do eqGuard op t x y a' b'; binOp op t a' b') := by
  unfold binV at e
  cases ha : Am.asInt a with
  | no => rw [ha] at e; exact binSlow_sound tok e
  | yes k n =>
    rw [ha] at e
    cases hb : Am.asInt b with
    | no =>
      have e : onInt (β := Tab → H → BinOp → TypeId → Operand → Operand → Value → Value → IntKind → Int → Res) (fun T h op t x y a b _ _ => binSlow T h op t x y a b)
        (fun k' i T h op t _ _ _ _ k n => binInt T h op t k k' n i) (Am.asInt b) T h op t x y a b k n = .val v h' := e
      rw [hb] at e; exact binSlow_sound tok e
    | yes k' i =>
      have e : onInt (β := Tab → H → BinOp → TypeId → Operand → Operand → Value → Value → IntKind → Int → Res) (fun T h op t x y a b _ _ => binSlow T h op t x y a b)
        (fun k' i T h op t _ _ _ _ k n => binInt T h op t k k' n i) (Am.asInt b) T h op t x y a b k n = .val v h' := e
      rw [hb] at e
      have e : binInt T h op t k k' n i = .val v h' := e
      have hav := asInt_yes ha
      have hbv := asInt_yes hb
      subst hav; subst hbv
      obtain ⟨l, k⟩ := binInt_sound (P := P) tok e (x := x) (y := y) (X := fun _ => True)
      refine ⟨l, fun Γ m hD w F I ⟨xa, xb⟩ => ?_⟩
      cases xa; cases xb
      exact k Γ m hD w F I trivial
theorem unOf_sound (tok : TabOK T P) {h h' : H} {op : UnOp} {a a' v : Value} (e : unOf T h op (some a) = .val v h') : OpS T P h v h' (fun m => VR m a a') (Op.unary op a') := by
  obtain ⟨hg, e⟩ := cond_val (r := vresG h (pureRun T.prog (Op.unary op a))) e
  exact pure_sound tok e (fun m x => by rw [x.ground hg])
theorem convertOf_sound (tok : TabOK T P) {h h' : H} {s d : TypeId} {a a' v : Value} (e : convertOf T h s d (some a) = .val v h') : OpS T P h v h' (fun m => VR m a a') (convert s d a') := by
  obtain ⟨hg, e⟩ := cond_val (r := vresG h (pureRun T.prog (convert s d a))) e
  exact pure_sound tok e (fun m x => by rw [x.ground hg])

theorem ifaceOf_sound (tok : TabOK T P) {h h' : H} {t : TypeId} {x x' v : Value} (e : ifaceOf h t (T.under t) (some x) = .val v h') : OpS T P h v h' (fun m => VR m x x') (Instr.makeInterface t x') := by
  cases hu : T.under t with
  | none => rw [hu] at e; cases e
  | some d =>
    rw [hu] at e
    cases d <;> first
      | (cases e; done)
      | (injection e with e1 e2; subst e1; subst e2
         exact OpS.quiet fun m hx => ⟨_, .iface t hx, fun w => by simp [Instr.makeInterface, run_under tok hu]⟩)
theorem extractOf_sound {h h' : H} {i : Nat} {x x' v : Value} (e : extractOf h i (some x) = .val v h') : OpS T P h v h' (fun m => VR m x x') (Instr.extract x' i) := by
  have e : onO (β := H → Nat → Res) (fun _ _ => .fail) (fun vs h i => vres h (nthL i vs.toList)) (Am.asTuple x) h i = .val v h' := e
  cases x with
  | tuple vs =>
    obtain ⟨l⟩ := vs
    have e : vres h (nthL i l) = .val v h' := e
    obtain ⟨e1, rfl⟩ := vres_val e
    rw [nthL_eq] at e1
    refine OpS.quiet fun m hx => ?_
    cases hx with
    | tuple hl =>
      obtain ⟨v', k1, k2⟩ := hl.get e1
      exact ⟨v', k2, fun w => by simp [Instr.extract, k1]⟩
  | _ => cases e
theorem pickOf_sound {tm : Tr Value} {h h' : H} {x y : Operand} {c c' v : Value} {ρ : Operand → Value} (e : pickOf tm h x y (some c) = .val v h') :
    OpS T P h v h' (fun m => VR m c c' ∧ (∀ u, opv tm x = some u → VR m u (ρ x)) ∧ (∀ u, opv tm y = some u → VR m u (ρ y))) (do pure (if ← Go.asBool c' then ρ x else ρ y)) := by
  cases c with
  | bool b =>
    cases b with
    | true =>
      have e : vres h (opv tm x) = .val v h' := e
      obtain ⟨e1, rfl⟩ := vres_val e
      exact OpS.quiet fun m ⟨xc, xx, xy⟩ => by cases xc; exact ⟨_, xx v e1, fun w => by simp [Go.asBool]⟩
    | false =>
      have e : vres h (opv tm y) = .val v h' := e
      obtain ⟨e1, rfl⟩ := vres_val e
      exact OpS.quiet fun m ⟨xc, xx, xy⟩ => by cases xc; exact ⟨_, xy v e1, fun w => by simp [Go.asBool]⟩
  | _ => cases e
end Go.Am
/- Each operation of the abstract machine, against the model's: parts of slices. -/
namespace Go.Am
open Go
variable {T : Tab} {P : Program}

inductive OptR (m : M) : Option Value → Option Value → Prop
  | none : OptR m none none
  | some {v v' : Value} (h : VR m v v') : OptR m (some v) (some v')

theorem boundOf_some {d : Nat} {v : Value} {n : Nat} (e : boundOf d (some v) = some n) : ∃ k, v = .int k (.ofNat n) := by
  cases v with
  | int k i =>
    cases i with
    | ofNat j => injection e with e; subst e; exact ⟨k, rfl⟩
    | negSucc j => cases e
  | _ => cases e
theorem run_sliceBound {m : M} {d : Nat} {v v' : Value} {n y : Nat} (e : boundOf d (some v) = some n) (hv : VR m v v') (hn : n ≤ y) (c : BoundsCode) (w : World) : (Instr.sliceBound v' y c).run P w = .ok n w := by
  obtain ⟨k, rfl⟩ := boundOf_some e
  cases hv
  have : (0 : Int) ≤ Int.ofNat n ∧ Int.ofNat n ≤ (y : Int) := ⟨by simp, by simp; omega⟩
  simp only [Instr.sliceBound, asIntOf, Sem.run_bind, Sem.run_pure, Result.andThen_ok, if_pos this]
  simp
theorem run_sliceBounds (isSlice : Bool) {m : M} {len cap : Nat} {lo hi mx lo' hi' mx' : Option Value} (rl : OptR m lo lo') (rh : OptR m hi hi') (rm : OptR m mx mx') {l e mm : Nat} (hl : boundOf 0 lo = some l)
    (he : boundOf len hi = some e) (hm : boundOf cap mx = some mm) (h1 : mm ≤ cap) (h2 : e ≤ mm) (h3 : l ≤ e) (hx : hi = none → mx = none) (w : World) :
    (Instr.sliceBounds isSlice len cap lo' hi' mx').run P w = .ok (l, e, mm) w := by
  cases rm with
  | none =>
    injection hm with hm; subst hm
    cases rh with
    | none =>
      injection he with he; subst he
      cases rl with
      | none => injection hl with hl; subst hl; simp [Instr.sliceBounds]
      | some r => simp [Instr.sliceBounds, run_sliceBound hl r h3]
    | some q =>
      cases rl with
      | none => injection hl with hl; subst hl; simp [Instr.sliceBounds, run_sliceBound he q h2]
      | some r => simp [Instr.sliceBounds, run_sliceBound he q h2, run_sliceBound hl r h3]
  | some p =>
    cases rh with
    | none => cases hx rfl
    | some q =>
      cases rl with
      | none => injection hl with hl; subst hl; simp [Instr.sliceBounds, run_sliceBound hm p h1, run_sliceBound he q h2]
      | some r => simp [Instr.sliceBounds, run_sliceBound hm p h1, run_sliceBound he q h2, run_sliceBound hl r h3]

theorem CapOK.le {pl : Pl} {off cap cap' : Nat} (h : CapOK pl off cap cap') (hs : 0 < pl.sz) : cap ≤ cap' := by
  rcases h with h | ⟨h1, h2⟩
  · omega
  · have : cap * pl.sz ≤ cap' * pl.sz := by omega
    exact Nat.le_of_mul_le_mul_right this hs
theorem CapOK.tight {pl : Pl} {off cap cap' : Nat} (h : CapOK pl off cap cap') (hs : 0 < pl.sz) (hx : pl.ext = 0) : cap' = cap := by
  rcases h with h | ⟨h1, h2⟩
  · exact h
  · have : cap' * pl.sz = cap * pl.sz := by omega
    exact Nat.eq_of_mul_eq_mul_right hs this

theorem sliceRow_val {h h' : H} {a : Addr} {cap : Nat} {on ol oe om : Option Nat} {v : Value} (e : sliceRow h a cap on ol oe om = .val v h') :
    ∃ n l en mm, on = some n ∧ ol = some l ∧ oe = some en ∧ om = some mm ∧ mm ≤ cap ∧ en ≤ mm ∧ l ≤ en ∧ h' = h ∧ v = .slice (some (cond (Nat.beq mm l) a (a.add (l * n)))) (en - l) (mm - l) := by
  unfold sliceRow at e
  split at e
  · rename_i n l en mm
    obtain ⟨c, e⟩ := cond_val e
    obtain ⟨c1, c⟩ := cond_both c
    obtain ⟨c2, c3⟩ := cond_both c
    injection e with e1 e2
    exact ⟨n, l, en, mm, rfl, rfl, rfl, rfl, nble_true c1, nble_true c2, nble_true c3, e2.symm, e1.symm⟩
  · cases e
theorem sliceGrow_val {h h' : H} {b off cap : Nat} {on ol oe om : Option Nat} {v : Value} (e : sliceGrow h b off cap on ol oe om = .val v h') :
    ∃ n l en mm, on = some n ∧ ol = some l ∧ oe = some en ∧ om = some mm ∧ mm ≤ cap ∧ en ≤ mm ∧ l ≤ en ∧ h' = h ∧ v = .slice (some ⟨b, off + l * n, none⟩) (en - l) (mm - l) := by
  unfold sliceGrow at e
  split at e
  · rename_i n l en mm
    obtain ⟨c, e⟩ := cond_val e
    obtain ⟨c1, c⟩ := cond_both c
    obtain ⟨c2, c3⟩ := cond_both c
    injection e with e1 e2
    exact ⟨n, l, en, mm, rfl, rfl, rfl, rfl, nble_true c1, nble_true c2, nble_true c3, e2.symm, e1.symm⟩
  · cases e
theorem sameSize_true {a b : Option Nat} (h : sameSize a b = true) : ∃ n, a = some n ∧ b = some n := by
  cases a with
  | none => cases h
  | some x =>
    cases b with
    | none => cases h
    | some y => have := nbeq_true h; subst this; exact ⟨x, rfl, rfl⟩

/-- A part of a slice whose capacity is the same on both sides. -/
theorem part_row {m : M} {b off len cap n l en mm : Nat} {x' : Value} (hx : VR m (.slice (some ⟨b, off, none⟩) len cap) x')
    (hc : ∀ pl cap', m b = some pl → CapOK pl off cap cap' → x' = .slice (some ⟨pl.blk, pl.sh + off, none⟩) len cap' → cap ≤ cap')
    (h1 : mm ≤ cap) (h2 : en ≤ mm) (h3 : l ≤ en) : ∃ a' cap', x' = .slice (some a') len cap' ∧ cap ≤ cap' ∧
      VR m (.slice (some (cond (Nat.beq mm l) ⟨b, off, none⟩ ((⟨b, off, none⟩ : Addr).add (l * n)))) (en - l) (mm - l)) (.slice (some (if mm = l then a' else a'.add (l * n))) (en - l) (mm - l)) := by
  rcases hx.slice_inv with ⟨pl, cap', hm, hcap, rfl⟩ | ⟨h4, h5, pl, a, hm, rfl⟩
  · refine ⟨_, cap', rfl, hc pl cap' hm hcap rfl, ?_⟩
    by_cases e : mm = l
    · rw [if_pos e, nbeq_eq e, cond_true]; exact .slice hm (.inl rfl)
    · rw [if_neg e, nbeq_ne e, cond_false, addr_add, addr_add, Nat.add_assoc]; exact .slice hm (.inl rfl)
  · subst h5; subst h4
    refine ⟨a, 0, rfl, Nat.le_refl _, ?_⟩
    have e : mm = l := by omega
    rw [if_pos e, nbeq_eq e, cond_true, show en - l = 0 from by omega, show mm - l = 0 from by omega]
    exact .empty hm
theorem run_slice_slice (tok : TabOK T P) {t el : TypeId} {lo' hi' mx' : Option Value} {a' : Option Addr} {len cap n l en mm : Nat} (hu : T.under t = some (.slice el)) (hs : size T el = some n)
    (hb : ∀ w, (Instr.sliceBounds true len cap lo' hi' mx').run P w = .ok (l, en, mm) w) (w : World) :
    (Instr.sliceAt t (.slice a' len cap) lo' hi' mx').run P w = .ok (.slice (if mm = l then a' else a'.map (·.add (l * n))) (en - l) (mm - l)) w := by
  simp only [Instr.sliceAt, Instr.slice, Sem.run_bind, run_under tok hu, Result.andThen_ok, hb, run_size tok hs, Sem.run_pure]

theorem sliceBy_sound (tok : TabOK T P) {h h' : H} {t : TypeId} {lo hi mx lo' hi' mx' : Option Value} {x x' v : Value} (e : sliceBy T h lo hi mx (T.under t) x = .val v h') (hx0 : hi = none → mx = none) :
    OpS T P h v h' (fun m => VR m x x' ∧ OptR m lo lo' ∧ OptR m hi hi' ∧ OptR m mx mx') (Instr.sliceAt t x' lo' hi' mx') := by
  cases hu : T.under t with
  | none => rw [hu] at e; cases e
  | some d =>
    rw [hu] at e
    unfold sliceBy at e
    split at e
    · -- a string
      rename_i s h1
      injection h1 with h1; subst h1
      cases mx with
      | some y => cases e
      | none =>
        have e : sliceStr h s (boundOf 0 lo) (boundOf s.size hi) = .val v h' := e
        unfold sliceStr at e
        split at e
        · rename_i l en hl he
          obtain ⟨c, e⟩ := cond_val e
          obtain ⟨c1, c2⟩ := cond_both c
          injection e with e1 e2; subst e1; subst e2
          refine OpS.quiet fun m ⟨xx, xl, xh, xm⟩ => ?_
          cases xx; cases xm
          refine ⟨_, .string _, fun w => ?_⟩
          have hb := run_sliceBounds (P := P) false (cap := s.size) xl xh .none hl he rfl (Nat.le_refl _) (nble_true c1) (nble_true c2) hx0 w
          simp only [Instr.sliceAt, Instr.slice, Sem.run_bind, run_under tok hu, Result.andThen_ok, Option.isSome_none, Bool.false_eq_true, if_false, hb, Sem.run_pure]
        · cases e
    · -- nil
      rename_i el h1
      injection h1 with h1; subst h1
      unfold sliceNil at e
      split at e
      · rename_i n hs hl he hm
        injection e with e1 e2; subst e1; subst e2
        refine OpS.quiet fun m ⟨xx, xl, xh, xm⟩ => ?_
        cases xx
        refine ⟨_, .slice0 0 0, fun w => ?_⟩
        have hb := fun w => run_sliceBounds (P := P) true (cap := 0) xl xh xm hl he hm (Nat.le_refl _) (Nat.le_refl _) (Nat.le_refl _) hx0 w
        exact run_slice_slice tok (a' := none) hu hs hb w
      · cases e
    · -- a row
      rename_i el b off len cap h1
      injection h1 with h1; subst h1
      have hle : h' = h.touch b ∧ ∃ c e0 g, h.get b = some (.cells c e0 g) := by
        cases hg : h.get b with
        | none => rw [hg] at e; cases e
        | some o =>
          rw [hg] at e
          cases o with
          | cells c e0 g =>
            refine ⟨?_, c, e0, g, rfl⟩
            cases g with
            | false => obtain ⟨_, _, _, _, _, _, _, _, _, _, _, q, _⟩ := sliceRow_val e; exact q
            | true =>
              cases mx with
              | none => obtain ⟨_, e⟩ := cond_val (r := sliceGrow (h.touch b) b off cap (size T el) (boundOf 0 lo) (boundOf len hi) (some cap)) e; obtain ⟨_, _, _, _, _, _, _, _, _, _, _, q, _⟩ := sliceGrow_val e; exact q
              | some y => obtain ⟨_, _, _, _, _, _, _, _, _, _, _, q, _⟩ := sliceRow_val e; exact q
          | _ => cases e
      obtain ⟨rfl, c, e0, g, hg⟩ := hle
      rw [hg] at e
      refine ⟨touch_le h b, fun Γ m hD w F I ⟨xx, xl, xh, xm⟩ => ?_⟩
      have ht : Γ.tch b := (touch_noted h b).elim (fun x => (F.hi b x).1) (F.rd b)
      suffices H : ∃ v', VR m v v' ∧ (Instr.sliceAt t x' lo' hi' mx').run P w = .ok v' w by
        obtain ⟨v', k1, k2⟩ := H
        exact ⟨v', m, hD, w, k2, .refl _, k1, I.touch b⟩
      have hrow : ∀ pl, m b = some pl → ∃ c' pre post e', Row T m pl w c e0 g c' pre post e' := fun pl hm => I.row hm hg ht
      have hcle : ∀ pl cap', m b = some pl → CapOK pl off cap cap' → x' = .slice (some ⟨pl.blk, pl.sh + off, none⟩) len cap' → cap ≤ cap' := fun pl cap' hm hc _ => by
        obtain ⟨_, _, _, _, R⟩ := hrow pl hm
        exact hc.le R.pos
      cases g with
      | false =>
        obtain ⟨n, l, en, mm, q1, q2, q3, q4, q5, q6, q7, _, rfl⟩ := sliceRow_val e
        obtain ⟨a', cap', rfl, hcc, k⟩ := part_row (n := n) xx hcle q5 q6 q7
        have hcap : cap' = cap := by
          rcases xx.slice_inv with ⟨pl, cap'', hm, hc, hq⟩ | ⟨_, hz, _, _, _, hq⟩
          · injection hq with _ _ hq; subst hq
            obtain ⟨_, _, _, _, R⟩ := hrow pl hm
            exact hc.tight R.pos (R.tight rfl)
          · injection hq with _ _ hq; omega
        subst hcap
        refine ⟨_, k, ?_⟩
        rw [run_slice_slice tok hu q1 (fun w => run_sliceBounds true xl xh xm q2 q3 q4 q5 q6 q7 hx0 w) w]
        by_cases e : mm = l
        · simp [e]
        · simp [e]
      | true =>
        cases mx with
        | some y =>
          obtain ⟨n, l, en, mm, q1, q2, q3, q4, q5, q6, q7, _, rfl⟩ := sliceRow_val e
          obtain ⟨a', cap', rfl, hcc, k⟩ := part_row (n := n) xx hcle q5 q6 q7
          refine ⟨_, k, ?_⟩
          have q4' : boundOf cap' (some y) = some mm := by obtain ⟨kk, rfl⟩ := boundOf_some q4; rfl
          rw [run_slice_slice tok hu q1 (fun w => run_sliceBounds true xl xh xm q2 q3 q4' (by omega) q6 q7 hx0 w) w]
          by_cases e : mm = l
          · simp [e]
          · simp [e]
        | none =>
          obtain ⟨hsame, e⟩ := cond_val (r := sliceGrow (h.touch b) b off cap (size T el) (boundOf 0 lo) (boundOf len hi) (some cap)) e
          obtain ⟨n, l, en, mm, q1, q2, q3, q4, q5, q6, q7, _, rfl⟩ := sliceGrow_val e
          injection q4 with q4; subst q4
          obtain ⟨n2, r1, r2⟩ := sameSize_true hsame
          rw [q1] at r2; injection r2 with r2; subst r2
          cases xm
          rcases xx.slice_inv with ⟨pl, cap', hm, hc, rfl⟩ | ⟨h4, h5, pl, a, hm, rfl⟩
          · obtain ⟨_, _, _, _, R⟩ := hrow pl hm
            have hsz : pl.sz = n := by have := R.sz rfl; rw [r1] at this; injection this with this; exact this.symm
            have hcl := hc.le R.pos
            have hrun := run_slice_slice (P := P) tok (a' := some ⟨pl.blk, pl.sh + off, none⟩) hu q1 (fun w => run_sliceBounds true (cap := cap') xl xh .none q2 q3 rfl (Nat.le_refl _) (by omega) q7 hx0 w) w
            by_cases e : cap' = l
            · rw [if_pos e] at hrun
              refine ⟨_, ?_, hrun⟩
              rw [show en - l = 0 from by omega, show cap - l = 0 from by omega, show cap' - l = 0 from by omega]
              exact .empty hm
            · rw [if_neg e] at hrun
              refine ⟨_, ?_, hrun⟩
              simp only [Option.map_some, addr_add, Nat.add_assoc]
              refine .slice hm ?_
              rcases hc with hc | ⟨hc1, hc2⟩
              · left; omega
              · right
                rw [hsz] at *
                have e1 : (cap - l) * n + l * n = cap * n := by rw [← Nat.add_mul]; congr 1; omega
                have e2 : (cap' - l) * n + l * n = cap' * n := by rw [← Nat.add_mul]; congr 1; omega
                omega
          · subst h5; subst h4
            have hrun := run_slice_slice (P := P) tok (a' := some a) hu q1 (fun w => run_sliceBounds true (cap := 0) xl xh .none q2 q3 rfl (Nat.le_refl _) (by omega) q7 hx0 w) w
            have e : (0 : Nat) = l := by omega
            rw [if_pos e] at hrun
            refine ⟨_, ?_, hrun⟩
            rw [show en - l = 0 from by omega, show 0 - l = 0 from by omega]
            exact .empty hm
    · -- an array's address
      rename_i n el a h1
      injection h1 with h1; subst h1
      obtain ⟨k, l, en, mm, q1, q2, q3, q4, q5, q6, q7, rfl, rfl⟩ := sliceRow_val e
      refine OpS.quiet fun m ⟨xx, xl, xh, xm⟩ => ?_
      obtain ⟨b, off, sp⟩ := a
      have hsp : sp = none := xx.addr
      subst hsp
      cases xx with
      | @ptr _ _ pl hm =>
        have hb := fun w => run_sliceBounds (P := P) false xl xh xm q2 q3 q4 q5 q6 q7 hx0 w
        refine ⟨.slice (some (if mm = l then ⟨pl.blk, pl.sh + off, none⟩ else (⟨pl.blk, pl.sh + off, none⟩ : Addr).add (l * k))) (en - l) (mm - l), ?_, fun w => by
          simp only [Instr.sliceAt, Sem.run_bind, run_under tok hu, Result.andThen_ok, Instr.sureAddr, hb, run_size tok q1, Sem.run_pure]⟩
        by_cases e : mm = l
        · rw [if_pos e, nbeq_eq e, cond_true]; exact .slice hm (.inl rfl)
        · rw [if_neg e, nbeq_ne e, cond_false, addr_add, addr_add, Nat.add_assoc]; exact .slice hm (.inl rfl)
    · -- data
      rename_i el off p len es caps h1
      injection h1 with h1; subst h1
      unfold sliceData at e
      split at e
      case h_2 => cases e
      rename_i n l en mm q1 q2 q3 q4
      obtain ⟨len, rfl⟩ : ∃ k : Nat, k = len := ⟨len, rfl⟩
      obtain ⟨off, rfl⟩ : ∃ k : Nat, k = off := ⟨off, rfl⟩
      obtain ⟨c, e⟩ := cond_val (r := Res.val (dsl es (Nat.add off l) (en - l) (dataCaps l (some mm) mx caps)) h) e
      obtain ⟨c1, c⟩ := cond_both c
      obtain ⟨c2, c⟩ := cond_both c
      obtain ⟨c3, c4⟩ := cond_both c
      have c1 := nble_true c1
      have c2 := nble_true c2
      have c3 := nble_true c3
      injection e with e1 e2; subst e1; subst e2
      -- the capacity behind it
      have capOf : ∀ cap' : Nat, len ≤ cap' → (caps = [] ∨ caps = [.int .i64 (Int.ofNat cap')] ∨ ∃ b, caps = [.bool b]) → ∃ m' : Nat, boundOf cap' mx = some m' ∧ mm ≤ m' ∧ m' ≤ cap' ∧ (mx = none → m' = cap') ∧
          (dataCaps l (some mm) mx caps = [] ∨ dataCaps l (some mm) mx caps = [.int .i64 (Int.ofNat (m' - l))]) := by
        intro cap' hc hk
        cases mx with
        | none =>
          injection q4 with q4
          refine ⟨cap', rfl, by omega, Nat.le_refl _, fun _ => rfl, ?_⟩
          rcases hk with rfl | rfl | ⟨b, rfl⟩
          · exact .inl rfl
          · exact .inr rfl
          · exact .inl rfl
        | some y =>
          obtain ⟨k, rfl⟩ := boundOf_some q4
          refine ⟨mm, rfl, Nat.le_refl _, by omega, (fun h => by cases h), ?_⟩
          exact .inr rfl
      refine OpS.quiet fun m ⟨xx, xl, xh, xm⟩ => ?_
      cases xx with
      | @data _ es' _ pre post _ _ cap' cc sz _ hi h hsz hl hcap hk =>
        obtain ⟨m', r1, r2, r3, r4, r5⟩ := capOf cap' hcap (hk.elim .inl fun h => .inr (.inl h))
        have hrun := fun w => run_slice_slice (P := P) tok (a' := some ⟨cc, pre.length + off * sz, none⟩) hu q1 (fun w => run_sliceBounds true xl xh xm q2 q3 r1 r3 (by omega) c3 hx0 w) w
        refine ⟨_, ?_, hrun⟩
        by_cases hz : en - l = 0
        · rw [hz]
          refine .data0 (fun h => ?_) (r5.elim .inl fun h => .inr (.inl h))
          by_cases hq : m' = l
          · rw [if_pos hq] at h; cases h
          · rw [if_neg hq] at h; cases h
        · have hml : m' ≠ l := by omega
          rw [if_neg hml]
          have hoff : (pre.length + off * sz) + l * n = pre.length + (Nat.add off l) * sz := by
            have e0 : (Nat.add off l) * sz = off * sz + l * sz := Nat.add_mul _ _ _
            rw [e0, Nat.add_assoc]
            cases hl0 : Nat.beq l 0 with
            | true => have := nbeq_true hl0; subst this; simp
            | false =>
              rw [hl0] at c4
              cases hel : es[off]? with
              | none => rw [hel] at c4; cases c4
              | some el' =>
                rw [hel] at c4
                have c4 := nbeq_true c4
                rw [lenL_eq] at c4
                obtain ⟨k1, _⟩ := data_elem hi h hsz hel #[] 0 #[]
                have : sz = n := by omega
                rw [this]
          have key := VR.data (m := m) (off := Nat.add off l) (len := en - l) (cap' := m' - l) (caps := dataCaps l (some mm) mx caps) (p := #[]) hi h hsz (by have : Nat.add off l = off + l := rfl; omega) (by omega) r5
          simp only [Option.map_some, addr_add, hoff]
          exact key
      | @data0 _ _ _ cap' _ a ha hk =>
        obtain ⟨m', r1, r2, r3, r4, r5⟩ := capOf cap' (Nat.zero_le _) (hk.elim .inl fun h => .inr (h.elim .inl fun h => .inr ⟨_, h⟩))
        have hrun := fun w => run_slice_slice (P := P) tok (a' := a) hu q1 (fun w => run_sliceBounds true xl xh xm q2 q3 r1 r3 (by omega) c3 hx0 w) w
        refine ⟨_, ?_, hrun⟩
        have hz : en - l = 0 := by omega
        rw [hz]
        refine .data0 (fun h => ?_) (r5.elim .inl fun h => .inr (.inl h))
        by_cases hq : m' = l
        · omega
        · rw [if_neg hq] at h
          cases a with
          | none => have := ha rfl; omega
          | some a => cases h
    · cases e
end Go.Am
