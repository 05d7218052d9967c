/- Each operation of the abstract machine, against the model's. -/
import Derived.Test.YtkdfgoimgcegfaaGreatDoorAmInv
set_option linter.unusedSectionVars false
set_option linter.unusedSimpArgs false
set_option linter.unusedVariables false
namespace Go.Am
open Go

variable {T : Tab} {P : Program}

/-- An operation that yields v and leaves h' in the abstract machine, against a computation of the model's. -/
def OpS (T : Tab) (P : Program) (h : H) (v : Value) (h' : H) (X : M → Prop) (s : Sem Value) : Prop :=
  Le h h' ∧ ∀ Γ m hD w, Fin Γ h' → Inv T Γ m hD h w → X m → ∃ v' m' hD' w', s.run P w = .ok v' w' ∧ MLe m m' ∧ VR m' v v' ∧ Inv T Γ m' hD' h' w'

theorem OpS.quiet {h : H} {v : Value} {X : M → Prop} {s : Sem Value} (H : ∀ m, X m → ∃ v', VR m v v' ∧ ∀ w, s.run P w = .ok v' w) : OpS T P h v h X s :=
  ⟨.refl _, fun _ m hD w _ I x => let ⟨v', hv, hs⟩ := H m x; ⟨v', m, hD, w, hs w, .refl _, hv, I⟩⟩

theorem vres_val {h h' : H} {o : Option Value} {v : Value} (e : vres h o = .val v h') : o = some v ∧ h' = h := by
  cases o with
  | none => cases e
  | some x => injection e with e1 e2; exact ⟨by rw [e1], e2.symm⟩

/-! ### Rows of cells -/
structure Row (T : Tab) (m : M) (pl : Pl) (w : World) (c : List Value) (e : TypeId) (g : Bool) (c' pre post : List Value) (e' : TypeId) : Prop where
  heap : w.heap[pl.blk]? = some (.cells ⟨pre ++ (c' ++ post)⟩ e' (0, 0))
  rel : LR m c c'
  pre : pre.length = pl.sh
  klen : c.length = pl.klen
  ext : pl.ext ≤ post.length
  tight : g = false → pl.ext = 0
  pos : 0 < pl.sz
  sz : g = true → size T e = some pl.sz
theorem Inv.row {Γ : Ctx} {m : M} {hD : Nat → Option AObj} {h : H} {w : World} (I : Inv T Γ m hD h w) {b : Nat} {pl : Pl} {c : List Value} {e : TypeId} {g : Bool}
    (hm : m b = some pl) (hg : h.get b = some (.cells c e g)) (ht : Γ.tch b) : ∃ c' pre post e', Row T m pl w c e g c' pre post e' := by
  obtain ⟨_, o', hw, hO⟩ := I.get hm hg ht
  cases hO with
  | cells h1 h2 h3 h4 h5 h6 h7 => exact ⟨_, _, _, _, ⟨hw, h1, h2, h3, h4, h5, h6, h7⟩⟩
theorem Row.or {m : M} {pl : Pl} {w : World} {c : List Value} {e : TypeId} {g : Bool} {c' pre post : List Value} {e' : TypeId} (R : Row T m pl w c e g c' pre post e') {d d' : List Value} (hd : LR m d d')
    (hl : d.length = c.length) : OR T m pl (.cells d e g) (.cells ⟨pre ++ (d' ++ post)⟩ e' (0, 0)) :=
  .cells hd R.pre (by rw [hl, R.klen]) R.ext R.tight R.pos R.sz

theorem addr_add (b o n : Nat) : (⟨b, o, none⟩ : Addr).add n = ⟨b, o + n, none⟩ := by unfold Addr.add; split <;> simp_all
theorem cell_mid {w : World} {blk : Nat} {pre c' post : List Value} {e' : TypeId} {fz : Nat × Nat} (hw : w.heap[blk]? = some (.cells ⟨pre ++ (c' ++ post)⟩ e' fz)) {i : Nat} {v : Value} (hi : c'[i]? = some v) :
    w.cell? ⟨blk, pre.length + i, none⟩ = some v := by
  have hlt : i < c'.length := (List.getElem?_eq_some_iff.1 hi).1
  unfold World.cell?
  simp only [hw, Option.isSome_none, Bool.false_eq_true, if_false, List.getElem?_toArray]
  rw [List.getElem?_append_right (by omega), Nat.add_sub_cancel_left, List.getElem?_append_left hlt, hi]
theorem run_loadCells_mid {w : World} {blk : Nat} {pre c' post : List Value} {e' : TypeId} {fz : Nat × Nat} (hw : w.heap[blk]? = some (.cells ⟨pre ++ (c' ++ post)⟩ e' fz)) {off n : Nat} (hn : n ≤ (c'.drop off).length) :
    (loadCells ⟨blk, pre.length + off, none⟩ n).run P w = .ok ⟨(c'.drop off).take n⟩ w := by
  have hl : ((c'.drop off).take n).length = n := by rw [List.length_take]; omega
  have := run_loadCells_list (P := P) w ⟨blk, pre.length + off, none⟩ ((c'.drop off).take n) (fun j v hj => by
    rw [addr_add, Nat.add_assoc]
    refine cell_mid hw ?_
    have hjn : j < n := by have := (List.getElem?_eq_some_iff.1 hj).1; omega
    rw [List.getElem?_take, if_pos hjn, List.getElem?_drop] at hj
    exact hj)
  rw [hl] at this
  exact this
theorem run_load_mid {w : World} {blk : Nat} {pre c' post : List Value} {e' : TypeId} {fz : Nat × Nat} (hw : w.heap[blk]? = some (.cells ⟨pre ++ (c' ++ post)⟩ e' fz)) {off : Nat} {v : Value} (hv : c'[off]? = some v) :
    (load ⟨blk, pre.length + off, none⟩).run P w = .ok v w := by
  rw [run_load, cell_mid hw hv]

theorem partOf_cases {t : TypeId} {c : List Value} {off : Nat} {v : Value} (e : partOf T t c off = some v) :
    (Am.isAgg T t = some false ∧ c[off]? = some v) ∨ (Am.isAgg T t = some true ∧ ∃ n, size T t = some n ∧ n ≤ (c.drop off).length ∧ v = .agg ⟨(c.drop off).take n⟩) := by
  unfold partOf at e
  cases ha : Am.isAgg T t with
  | none => rw [ha] at e; cases e
  | some b =>
    rw [ha] at e
    cases b with
    | false => exact .inl ⟨rfl, by rw [← nthL_eq]; exact e⟩
    | true =>
      refine .inr ⟨rfl, ?_⟩
      have e : partAgg c off (size T t) = some v := e
      cases hs : size T t with
      | none => rw [hs] at e; cases e
      | some n =>
        rw [hs] at e
        have e : aggOf (cut c off n) = some v := e
        cases hc : cut c off n with
        | none => rw [hc] at e; cases e
        | some r =>
          rw [hc] at e; injection e with e
          obtain ⟨h1, h2⟩ := cut_eq hc
          exact ⟨n, rfl, h1, by rw [← e, h2]⟩
theorem part_sound (tok : TabOK T P) {m : M} {t : TypeId} {c c' : List Value} {off : Nat} {v : Value} (e : partOf T t c off = some v) (hc : LR m c c') :
    ∃ v', VR m v v' ∧ ∀ w, (part t ⟨c'⟩ off).run P w = .ok v' w := by
  rcases partOf_cases e with ⟨ha, hv⟩ | ⟨ha, n, hs, hn, rfl⟩
  · obtain ⟨v', h1, h2⟩ := hc.get hv
    exact ⟨v', h2, fun w => by simp [part, run_isAgg tok ha, h1]⟩
  · refine ⟨.agg ⟨(c'.drop off).take n⟩, .agg ((hc.drop off).take n), fun w => ?_⟩
    simp [part, run_isAgg tok ha, run_size tok hs]
theorem loadVar_at (tok : TabOK T P) {m : M} {blk : Nat} {w : World} {c c' pre post : List Value} {e' : TypeId} {fz : Nat × Nat} (hw : w.heap[blk]? = some (.cells ⟨pre ++ (c' ++ post)⟩ e' fz)) (hr : LR m c c') {t : TypeId} {off : Nat} {v : Value}
    (e : partOf T t c off = some v) : ∃ v', VR m v v' ∧ (loadVar t ⟨blk, pre.length + off, none⟩).run P w = .ok v' w := by
  rcases partOf_cases e with ⟨ha, hv⟩ | ⟨ha, n, hs, hn, rfl⟩
  · obtain ⟨v', h1, h2⟩ := hr.get hv
    refine ⟨v', h2, ?_⟩
    have := run_load_mid (P := P) hw h1
    simp only [loadVar, Sem.run_bind, run_isAgg tok ha, Result.andThen_ok, Bool.false_eq_true, if_false]
    exact this
  · refine ⟨.agg ⟨(c'.drop off).take n⟩, .agg ((hr.drop off).take n), ?_⟩
    have := run_loadCells_mid (P := P) hw (off := off) (n := n) (by rw [(hr.drop off).length]; exact hn)
    simp only [loadVar, Sem.run_bind, run_isAgg tok ha, Result.andThen_ok, if_true, run_size tok hs, this, Sem.run_pure]
theorem loadVar_sound (tok : TabOK T P) {m : M} {pl : Pl} {w : World} {c c' pre post : List Value} {e0 e' : TypeId} {g : Bool} (R : Row T m pl w c e0 g c' pre post e') {t : TypeId} {off : Nat} {v : Value}
    (e : partOf T t c off = some v) : ∃ v', VR m v v' ∧ (loadVar t ⟨pl.blk, pl.sh + off, none⟩).run P w = .ok v' w := by
  have := loadVar_at (P := P) tok R.heap R.rel e
  rwa [R.pre] at this
/-- A value that will never be written. -/
theorem Inv.imVar (tok : TabOK T P) {Γ : Ctx} {m : M} {hD : Nat → Option AObj} {h : H} {w : World} (I : Inv T Γ m hD h w) {c : Nat} {l l' pre post : List Value} (hi : m.im c = some (pre ++ (l' ++ post))) (hr : LR m l l') {t : TypeId} {off : Nat} {v : Value}
    (e : partOf T t l off = some v) : ∃ v', VR m v v' ∧ (loadVar t ⟨c, pre.length + off, none⟩).run P w = .ok v' w := by
  obtain ⟨⟨e', f, hw⟩, _⟩ := I.imm _ _ hi
  exact loadVar_at tok hw hr e

theorem fnPtr_to {fn : Fn} {es : Array Value} {b off : Nat} : fnPtr es fn ≠ .to b off := by
  intro e
  cases fn with
  | via f p k q =>
    cases q with
    | false => cases e
    | true =>
      obtain ⟨l⟩ := es
      have e : dataPtr f l = .to b off := e
      rcases l with _ | ⟨x, _ | ⟨y, l⟩⟩ <;> cases e
  | _ => cases e
theorem ptrTo_to {v : Value} {b off : Nat} (e : ptrTo v = .to b off) : v = .pointer (some ⟨b, off, none⟩) := by
  cases v with
  | pointer a =>
    cases a with
    | none => cases e
    | some a =>
      obtain ⟨x, y, z⟩ := a
      cases z with
      | none => injection e with e1 e2; subst e1; subst e2; rfl
      | some z => cases e
  | func fn es cs => exact absurd e fnPtr_to
  | _ => cases e
theorem ptrTo_data {v x : Value} {f : Nat} (e : ptrTo v = .data x f) : ∃ p k q, v = .func (.via f p k true) ⟨[x]⟩ q := by
  cases v with
  | pointer a =>
    cases a with
    | none => cases e
    | some a => obtain ⟨x, y, z⟩ := a; cases z <;> cases e
  | func fn es cs =>
    have e : fnPtr es fn = .data x f := e
    cases fn with
    | via g p k q =>
      cases q with
      | false => cases e
      | true =>
        obtain ⟨l⟩ := es
        have e : dataPtr g l = .data x f := e
        rcases l with _ | ⟨y, _ | ⟨z, l⟩⟩
        · cases e
        · injection e with e1 e2; subst e1; subst e2; exact ⟨p, k, cs, rfl⟩
        · cases e
    | _ => cases e
  | _ => cases e

/-- What a load is: of a row, or of data. -/
theorem loadLoc_val {h h' : H} {t : TypeId} {a v : Value} (e : loadLoc T h t a = .val v h') : ∃ b off c e0 g, a = .pointer (some ⟨b, off, none⟩) ∧ h.get b = some (.cells c e0 g) ∧ partOf T t c off = some v ∧ h' = h.touch b := by
  have e : onPtr (β := Tab → H → TypeId → Res) (fun _ _ _ => .fail) (fun b off T h t => loadIn T h t b off (h.get b)) (fun _ _ _ _ _ => .fail) (ptrTo a) T h t = .val v h' := e
  cases hp : ptrTo a with
  | no => rw [hp] at e; cases e
  | data x f => rw [hp] at e; cases e
  | to b off =>
    rw [hp] at e
    have hav := ptrTo_to hp
    have e : loadIn T h t b off (h.get b) = .val v h' := e
    cases hg : h.get b with
    | none => rw [hg] at e; cases e
    | some o =>
      rw [hg] at e
      cases o with
      | cells c e0 g =>
        have e : vres (h.touch b) (partOf T t c off) = .val v h' := e
        obtain ⟨e1, e2⟩ := vres_val e
        exact ⟨b, off, c, e0, g, hav, hg, e1, e2⟩
      | _ => cases e
theorem loadAt_val {h h' : H} {t : TypeId} {a v : Value} (e : loadAt T h t a = .val v h') : loadLoc T h t a = .val v h' ∨ ∃ x f p k q, a = .func (.via f p k true) ⟨[x]⟩ q ∧ partOf T t (cellsL x) f = some v ∧ h' = h := by
  have e : onPtr (β := Tab → H → TypeId → Res) (fun _ _ _ => .fail) (fun b off T h t => loadIn T h t b off (h.get b)) (fun e f T h t => vres h (partOf T t (cellsL e) f)) (ptrTo a) T h t = .val v h' := e
  cases hp : ptrTo a with
  | no => rw [hp] at e; cases e
  | to b off =>
    left
    rw [hp] at e
    show onPtr (β := Tab → H → TypeId → Res) (fun _ _ _ => .fail) (fun b off T h t => loadIn T h t b off (h.get b)) (fun _ _ _ _ _ => .fail) (ptrTo a) T h t = .val v h'
    rw [hp]; exact e
  | data x f =>
    right
    rw [hp] at e
    have e : vres h (partOf T t (cellsL x) f) = .val v h' := e
    obtain ⟨e1, e2⟩ := vres_val e
    obtain ⟨p, k, q, h1⟩ := ptrTo_data hp
    exact ⟨x, f, p, k, q, h1, e1, e2⟩

theorem loadAt_sound (tok : TabOK T P) {h h' : H} {t : TypeId} {a a' v : Value} (e : loadAt T h t a = .val v h') : OpS T P h v h' (fun m => VR m a a') (Instr.loadAt t a') := by
  rcases loadAt_val e with e | ⟨x, f, p, k, q, rfl, e1, rfl⟩
  · obtain ⟨b, off, c, e0, g, rfl, hg, e1, rfl⟩ := loadLoc_val e
    refine ⟨touch_le h b, fun Γ m hD w F I x => ?_⟩
    have ht : Γ.tch b := (touch_noted h b).elim (fun x => (F.hi b x).1) (F.rd b)
    cases x with
    | ptr hm =>
      obtain ⟨c', pre, post, e', R⟩ := I.row hm hg ht
      obtain ⟨v', h1, h2⟩ := loadVar_sound tok R e1
      exact ⟨v', m, hD, w, by simp [Instr.loadAt, Instr.sureAddr, h2], .refl _, h1, I.touch b⟩
  · refine ⟨.refl _, fun Γ m hD w F I xx => ?_⟩
    cases xx with
    | dataPtr hi hx =>
      obtain ⟨v', h1, h2⟩ := I.imVar tok hi hx.cells e1
      exact ⟨v', m, hD, w, by simp [Instr.loadAt, Instr.sureAddr, h2], .refl _, h1, I⟩

/-! ### Stores -/
theorem setRow_same (w : World) {g : Nat} {c c2 : Array Value} {t : TypeId} (hg : w.heap[g]? = some (.cells c t (0, 0))) :
    (w.setRow g c2).heap[g]? = some (.cells c2 t (0, 0)) ∧ (∀ j, j ≠ g → (w.setRow g c2).heap[j]? = w.heap[j]?) ∧ (w.setRow g c2).heap.size = w.heap.size ∧ Same w (w.setRow g c2) := by
  have h1 := setRow_heap w g c c2 t (0, 0) hg
  have h2 : ∀ j, j ≠ g → (w.setRow g c2).heap[j]? = w.heap[j]? := fun j hj => by
    unfold World.setRow; simp [Array.getElem?_modify, Ne.symm hj]
  refine ⟨h1, h2, by unfold World.setRow; simp, ⟨fun a => ?_, rfl, rfl, rfl⟩⟩
  by_cases ha : a.block = g
  · unfold World.frozen?; rw [ha, h1, hg]
  · unfold World.frozen?; rw [h2 _ ha]
theorem storeCells_sound {Γ : Ctx} {m : M} {hD : Nat → Option AObj} {h : H} {w : World} (I : Inv T Γ m hD h w) {b off : Nat} {pl : Pl} {c : List Value} {e : TypeId} {g : Bool} {vs vs' d : List Value}
    (hm : m b = some pl) (hg : h.get b = some (.cells c e g)) (hs : splice off vs c = some d) (hv : LR m vs vs') (h1 : ∀ v ∈ vs, v.oneCell' = true) (F : Fin Γ (h.put b (.cells d e g))) :
    ∃ w' hD', (storeCells ⟨pl.blk, pl.sh + off, none⟩ vs').run P w = .ok () w' ∧ Inv T Γ m hD' (h.put b (.cells d e g)) w' := by
  have hn := put_noted h b (.cells d e g)
  have ht : Γ.tch b := hn.elim (fun x => (F.hi b x).1) (fun x => F.rd b x.1)
  obtain ⟨c', pre, post, e', R⟩ := I.row hm hg ht
  obtain ⟨hle, hd⟩ := splice_eq _ _ _ _ hs
  have hl' := R.rel.length
  have hlv := hv.length
  have hst := run_storeCells_at P pl.blk (pl.sh + off) e' vs' 0 ⟨pre ++ (c' ++ post)⟩ w R.heap (by simp [R.pre]; omega) (hv.oneCell h1)
  have hrow : ((pre ++ (c' ++ post)).take (pl.sh + off + 0) ++ vs' ++ (pre ++ (c' ++ post)).drop (pl.sh + off + 0 + vs'.length)) = pre ++ ((c'.take off ++ (vs' ++ c'.drop (off + vs'.length))) ++ post) := by
    have a1 : (pre ++ (c' ++ post)).take (pl.sh + off + 0) = pre ++ c'.take off := by
      rw [Nat.add_zero, ← R.pre, List.take_length_add_append, List.take_append_of_le_length (by omega)]
    have a2 : (pre ++ (c' ++ post)).drop (pl.sh + off + 0 + vs'.length) = c'.drop (off + vs'.length) ++ post := by
      rw [Nat.add_zero, Nat.add_assoc, ← R.pre, List.drop_length_add_append, List.drop_append_of_le_length (by omega)]
    rw [a1, a2]; simp
  rw [hrow] at hst
  obtain ⟨s1, s2, s3, s4⟩ := setRow_same w (c2 := (pre ++ ((c'.take off ++ (vs' ++ c'.drop (off + vs'.length))) ++ post)).toArray) R.heap
  refine ⟨_, _, hst, I.put hm hg F (R.or (d' := c'.take off ++ (vs' ++ c'.drop (off + vs'.length))) ?_ ?_) s1 s2 s3 s4⟩
  · rw [hd]; exact R.rel.splice hv
  · rw [hd]; simp; omega
end Go.Am
/- Each operation of the abstract machine, against the model's: the second part. -/
namespace Go.Am
open Go
variable {T : Tab} {P : Program}

theorem VR.undef (m : M) : VR m Go.undef Go.undef := .tuple .nil

theorem storeAt_sound (tok : TabOK T P) {h h' : H} {t : TypeId} {a a' v v' : Value} (e : storeAt T h t v a = some h') :
    OpS T P h undef h' (fun m => VR m a a' ∧ VR m v v') (do Instr.storeAt t a' v'; pure undef) := by
  have e : onPtr (β := Tab → H → TypeId → Value → Option H) (fun _ _ _ _ => none)
    (fun b off T h t v => onB none (storeTo h b off (cellsL v)) (fits (cellsL v) (size T t))) (fun _ _ _ _ _ _ => none) (ptrTo a) T h t v = some h' := e
  cases hp : ptrTo a with
  | no => rw [hp] at e; cases e
  | data x f => rw [hp] at e; cases e
  | to b off =>
    rw [hp] at e
    have hav := ptrTo_to hp
    subst hav
    have e : onB none (storeTo h b off (cellsL v)) (fits (cellsL v) (size T t)) = some h' := e
    cases hf : fits (cellsL v) (size T t) with
    | false => rw [hf] at e; cases e
    | true =>
      rw [hf] at e
      have e : storeIn h b off (cellsL v) (h.get b) = some h' := e
      cases hs : size T t with
      | none => rw [hs] at hf; cases hf
      | some n =>
        rw [hs] at hf
        have hf : cond (Nat.beq (lenL (cellsL v)) n) (oneCells (cellsL v)) false = true := hf
        cases hb : Nat.beq (lenL (cellsL v)) n with
        | false => rw [hb] at hf; cases hf
        | true =>
          rw [hb] at hf
          have hlen := nbeq_true hb
          rw [lenL_eq] at hlen
          cases hg : h.get b with
          | none => rw [hg] at e; cases e
          | some o =>
            rw [hg] at e
            cases o with
            | cells c e0 g =>
              have e : putSome h b e0 g (splice off (cellsL v) c) = some h' := e
              cases hsp : splice off (cellsL v) c with
              | none => rw [hsp] at e; cases e
              | some d =>
                rw [hsp] at e
                injection e with e
                subst e
                refine ⟨put_le _ _ _ hg, fun Γ m hD w F I x => ?_⟩
                obtain ⟨xa, xv⟩ := x
                cases xa with
                | ptr hm =>
                  obtain ⟨w', hD', h1, h2⟩ := storeCells_sound (P := P) I hm hg hsp xv.cells (oneCells_eq hf) F
                  have hn : v'.cells.size = n := by rw [← hlen, ← xv.cells.length]; simp
                  exact ⟨undef, m, hD', w', by simp [Instr.storeAt, Instr.sureAddr, storeVar, run_size tok hs, hn, h1], .refl _, .undef m, h2⟩
            | _ => cases e

/-! ### New blocks -/
theorem same_push (w : World) {o : Obj} (ho : ∀ c e f, o = .cells c e f → f = (0, 0)) : Same w { w with heap := w.heap.push o } := by
  refine ⟨fun a => ?_, rfl, rfl, rfl⟩
  unfold World.frozen?
  simp only [Array.getElem?_push]
  by_cases ha : a.block = w.heap.size
  · rw [if_pos ha, ha]
    simp only [Array.getElem?_eq_none (Nat.le_refl w.heap.size)]
    cases o <;> simp
    case cells c e f => have := ho c e f rfl; subst this; simp
  · rw [if_neg ha]
theorem newObj_sound {Γ : Ctx} {m : M} {hD : Nat → Option AObj} {h : H} {w : World} (I : Inv T Γ m hD h w) {o : AObj} {o' : Obj} {pl : Pl} (F : Fin Γ (h.new o)) (hb : pl.blk = w.heap.size)
    (hO : ∀ m', MLe m m' → m' h.next = some pl → OR T m' pl o o') (ho : ∀ c e f, o' = .cells c e f → f = (0, 0)) :
    ∃ m' hD', MLe m m' ∧ m' h.next = some pl ∧ Inv T Γ m' hD' (h.new o) { w with heap := w.heap.push o' } := by
  have hN : h.next < Γ.N := by have := F.next; rw [new_next] at this; omega
  have hmn := (I.fresh h.next (Nat.le_refl _) hN).1
  have hle : MLe m (m.upd h.next (some pl)) := M.le_upd hmn
  obtain ⟨h1, h2⟩ := I.new F hb (hO _ hle (M.upd_eq _ _ _)) (w' := { w with heap := w.heap.push o' }) rfl (same_push w ho)
  exact ⟨_, _, h1, M.upd_eq _ _ _, h2⟩
theorem newCells_sound {Γ : Ctx} {m : M} {hD : Nat → Option AObj} {h : H} {w : World} (I : Inv T Γ m hD h w) {c c' : List Value} {e : TypeId} (F : Fin Γ (h.new (.cells c e false))) (hc : LR m c c') :
    ∃ m' hD', MLe m m' ∧ m' h.next = some ⟨w.heap.size, 0, c.length, 0, 1⟩ ∧ Inv T Γ m' hD' (h.new (.cells c e false)) { w with heap := w.heap.push (.cells ⟨c'⟩ e (0, 0)) } :=
  newObj_sound I F rfl (fun m' hm _ => by
    have := OR.cells (T := T) (pl := ⟨w.heap.size, 0, c.length, 0, 1⟩) (pre := []) (post := []) (e := e) (e' := e) (g := false) (hc.mono hm) rfl rfl (Nat.zero_le _) (fun _ => rfl) Nat.one_pos (fun h => by cases h)
    simpa using this) (fun _ _ _ h => by injection h with _ _ h; exact h.symm)
theorem run_newRow (w : World) (e : TypeId) (c : Array Value) : (newRow e c).run P w = .ok ⟨w.heap.size, 0, none⟩ { w with heap := w.heap.push (.cells c e (0, 0)) } := by
  simp [newRow]
theorem run_newVar (w : World) (e : TypeId) (v : Value) : (newVar e v).run P w = .ok ⟨w.heap.size, 0, none⟩ { w with heap := w.heap.push (.cells v.cells e (0, 0)) } := run_newRow w e v.cells

theorem boxOf_sound {h h' : H} {e : TypeId} {z z' v : Value} (hb : boxOf h e (some z) = .val v h') : OpS T P h v h' (fun m => VR m z z') (Instr.box e z') := by
  have hb : Res.val (.pointer (some ⟨h.next, 0, none⟩)) (h.new (.cells (cellsL z) e false)) = .val v h' := hb
  injection hb with h1 h2
  subst h1; subst h2
  refine ⟨new_le _ _, fun Γ m hD w F I x => ?_⟩
  obtain ⟨m', hD', k1, k2, k3⟩ := newCells_sound I F x.cells
  exact ⟨.pointer (some ⟨w.heap.size, 0, none⟩), m', hD', _, by simp [Instr.box, run_newVar], k1, VR.ptr (off := 0) k2, k3⟩
theorem alloc_sound (tok : TabOK T P) {h h' : H} {e : TypeId} {v : Value} (hb : boxOf h e (zero T e) = .val v h') : OpS T P h v h' (fun _ => True) (Instr.alloc e true (.tuple #[])) := by
  cases hz : zero T e with
  | none => rw [hz] at hb; cases hb
  | some z =>
    rw [hz] at hb
    obtain ⟨g, hr⟩ := zero_ok tok hz
    obtain ⟨l, k⟩ := boxOf_sound (T := T) (P := P) (z' := z) hb
    refine ⟨l, fun Γ m hD w F I _ => ?_⟩
    obtain ⟨v', m', hD', w', h1, h2, h3, h4⟩ := k Γ m hD w F I (VR.refl_deep m g)
    refine ⟨v', m', hD', w', ?_, h2, h3, h4⟩
    simpa [Instr.alloc, hr, Instr.box] using h1
end Go.Am
/- Each operation of the abstract machine, against the model's: what is built. -/
namespace Go.Am
open Go
variable {T : Tab} {P : Program}

inductive PartsR (m : M) : List (Nat × Value) → List (Nat × Value) → Prop
  | nil : PartsR m [] []
  | cons {i : Nat} {v v' : Value} {l l' : List (Nat × Value)} (h : VR m v v') (hl : PartsR m l l') : PartsR m ((i, v) :: l) ((i, v') :: l')

theorem foldl_fill (off : Nat) : ∀ (l : List Value) (k : Nat) (cells : Array Value), off + k + l.length ≤ cells.size →
    (l.zipIdx k).foldl (fun cs (p : Value × Nat) => cs.setIfInBounds (off + p.2) p.1) cells = ⟨cells.toList.take (off + k) ++ l ++ cells.toList.drop (off + k + l.length)⟩
  | [], k, cells, _ => by simp
  | v :: l, k, cells, h => by
    simp only [List.zipIdx_cons, List.foldl_cons]
    rw [foldl_fill off l (k + 1) _ (by simp at h ⊢; omega)]
    have := list_seg_step cells.toList (off + k) v l (by simp at h ⊢; omega)
    rw [Array.toList_setIfInBounds, show off + (k + 1) = off + k + 1 from by omega, this]
    simp [Nat.add_assoc]
theorem fill_step {off : Nat} {v : Value} {cells : Array Value} (h : off + v.cells.size ≤ cells.size) :
    v.cells.zipIdx.foldl (fun cs (c, j) => cs.setIfInBounds (off + j) c) cells = ⟨cells.toList.take off ++ (v.cells.toList ++ cells.toList.drop (off + v.cells.toList.length))⟩ := by
  rw [← Array.foldl_toList, Array.toList_zipIdx]
  have := foldl_fill off v.cells.toList 0 cells (by simp; omega)
  simpa using this
theorem fillCells_cons (place : Nat → Option (Nat × Nat)) (x : Nat × Value) (l : List (Nat × Value)) (c : List Value) :
    fillCells place (x :: l) c = match place x.1 with
      | some (off, n) => match cond (Nat.beq (lenL (cellsL x.2)) n) (splice off (cellsL x.2) c) none with
        | some c => fillCells place l c
        | none => none
      | none => none := rfl
theorem fill_sound {m : M} {place place' : Nat → Option (Nat × Nat)} (hp : ∀ i x, place i = some x → place' i = some x) : ∀ {ps ps' : List (Nat × Value)} {c c' r : List Value},
    PartsR m ps ps' → LR m c c' → fillCells place ps c = some r → ∃ r', Instr.fill place' ⟨c'⟩ ps' = some ⟨r'⟩ ∧ LR m r r'
  | _, _, c, c', r, .nil, hc, e => by
    have e : some c = some r := e
    injection e with e; subst e
    exact ⟨c', rfl, hc⟩
  | _, _, c, c', r, .cons (i := i) (v := v) (v' := v') hv hl, hc, e => by
    rw [fillCells_cons] at e
    cases hpl : place i with
    | none => simp only [hpl] at e; cases e
    | some x =>
      obtain ⟨off, n⟩ := x
      simp only [hpl] at e
      cases hb : Nat.beq (lenL (cellsL v)) n with
      | false => rw [hb] at e; cases e
      | true =>
        rw [hb, cond_true] at e
        cases hs : splice off (cellsL v) c with
        | none => simp only [hs] at e; cases e
        | some d =>
          simp only [hs] at e
          obtain ⟨h1, h2⟩ := splice_eq _ _ _ _ hs
          have hlen := nbeq_true hb
          rw [lenL_eq] at hlen
          have hcl := hv.cells.length
          have hsz : v'.cells.size = n := by rw [← hlen, ← hcl]; simp
          have hd : LR m d (c'.take off ++ (v'.cells.toList ++ c'.drop (off + v'.cells.toList.length))) := by rw [h2]; exact hc.splice hv.cells
          obtain ⟨r', k1, k2⟩ := fill_sound hp hl hd e
          refine ⟨r', ?_, k2⟩
          have hle : off + v'.cells.size ≤ (⟨c'⟩ : Array Value).size := by
            have := hc.length
            have : (⟨c'⟩ : Array Value).size = c'.length := rfl
            rw [this]; rw [← Array.length_toList]; omega
          have hcond : (decide (v'.cells.size ≠ n) || decide (off + v'.cells.size > (⟨c'⟩ : Array Value).size)) = false := by
            simp [hsz]; rw [hsz] at hle; simpa using hle
          simp only [Instr.fill, hp i _ hpl, hcond, Bool.false_eq_true, if_false]
          rw [fill_step hle]
          exact k1

noncomputable def placeD (T : Tab) (f : Field) : Nat × Nat := (f.offset, (size T f.type).getD 0)
theorem mapM_places (tok : TabOK T P) : ∀ (fs : List Field), (∀ f ∈ fs, ∃ n, size T f.type = some n) → ∀ w,
    (fs.mapM fun (f : Field) => (do pure (f.offset, ← sizeOf f.type) : Sem (Nat × Nat))).run P w = .ok (fs.map (placeD T)) w
  | [], _, w => by simp
  | f :: fs, h, w => by
    obtain ⟨n, hn⟩ := h f (by simp)
    have ih := mapM_places tok fs (fun g hg => h g (by simp [hg])) w
    simp only [List.mapM_cons, Sem.run_bind, run_size tok hn, Result.andThen_ok, Sem.run_pure, ih, List.map_cons, placeD, hn, Option.getD_some]
theorem fieldsOK_cons (f : Field) (l : List Field) : fieldsOK T (f :: l) = match size T f.type with | some _ => fieldsOK T l | none => false := rfl
theorem fieldsOK_mem : ∀ {fs : List Field}, fieldsOK T fs = true → ∀ f ∈ fs, ∃ n, size T f.type = some n
  | [], _, f, hf => by cases hf
  | g :: fs, h, f, hf => by
    rw [fieldsOK_cons] at h
    cases hs : size T g.type with
    | none => rw [hs] at h; cases h
    | some n =>
      rw [hs] at h
      rcases List.mem_cons.1 hf with rfl | hf
      · exact ⟨n, hs⟩
      · exact fieldsOK_mem h f hf
theorem fieldPlace_some {fs : Array Field} {i off n : Nat} (h : fieldPlace T fs i = some (off, n)) : ∃ f, fs.toList[i]? = some f ∧ off = f.offset ∧ size T f.type = some n := by
  unfold fieldPlace at h
  cases hf : fs.toList[i]? with
  | none => rw [hf] at h; cases h
  | some f =>
    rw [hf] at h
    cases hs : size T f.type with
    | none => simp only [hs] at h; cases h
    | some k => simp only [hs] at h; injection h with h; injection h with h1 h2; subst h1; subst h2; exact ⟨f, rfl, rfl, hs⟩
theorem buildOf_sound (tok : TabOK T P) {h h' : H} {t : TypeId} {ps : List (Nat × Value)} {ps' : Array (Nat × Value)} {v : Value} (e : buildOf T h t (zero T t) (some ps) = .val v h') :
    OpS T P h v h' (fun m => PartsR m ps ps'.toList) (Instr.build t ps') := by
  cases hz : zero T t with
  | none => rw [hz] at e; cases e
  | some z =>
    rw [hz] at e
    obtain ⟨hg, hr⟩ := zero_ok tok hz
    have e : buildBy T h (cellsL z) ps (T.under t) = .val v h' := e
    have hzc : ∀ m, LR m (cellsL z) z.cells.toList := fun m => (VR.refl_deep m hg).cells
    cases hu : T.under t with
    | none => rw [hu] at e; cases e
    | some d =>
      rw [hu] at e
      cases d with
      | struct fs =>
        have e : onB .fail (aggRes h (fillCells (fieldPlace T fs) ps (cellsL z))) (fieldsOK T fs.toList) = .val v h' := e
        cases hok : fieldsOK T fs.toList with
        | false => rw [hok] at e; cases e
        | true =>
          rw [hok] at e
          have e : aggRes h (fillCells (fieldPlace T fs) ps (cellsL z)) = .val v h' := e
          cases hfc : fillCells (fieldPlace T fs) ps (cellsL z) with
          | none => rw [hfc] at e; cases e
          | some r =>
            rw [hfc] at e
            have e : Res.val (.agg ⟨r⟩) h = .val v h' := e
            injection e with e1 e2; subst e1; subst e2
            refine OpS.quiet fun m x => ?_
            have hm := mapM_places tok fs.toList (fieldsOK_mem hok)
            obtain ⟨r', k1, k2⟩ := fill_sound (place' := fun i => (fs.toList.map (placeD T)).toArray[i]?) (fun i y hy => by
              obtain ⟨off, n⟩ := y
              obtain ⟨f, q1, q2, q3⟩ := fieldPlace_some hy
              subst q2
              simp only [List.getElem?_toArray, List.getElem?_map, q1, Option.map_some, placeD, q3, Option.getD_some]) x (hzc m) hfc
            refine ⟨.agg ⟨r'⟩, .agg k2, fun w => ?_⟩
            have hma : (fs.mapM fun (f : Field) => (do pure (f.offset, ← sizeOf f.type) : Sem (Nat × Nat))).run P w = .ok (fs.toList.map (placeD T)).toArray w := by
              rw [Array.mapM_eq_mapM_toList]
              simp only [Sem.run_map, hm w, Result.andThen_ok]
            have hz' : (⟨z.cells.toList⟩ : Array Value) = z.cells := rfl
            rw [hz'] at k1
            simp only [Instr.build, Sem.run_bind, hr w, Result.andThen_ok, run_under tok hu, hma, k1, Sem.run_pure]
      | array len el =>
        have e : (match size T el with | some n => aggRes h (fillCells (elemPlace n) ps (cellsL z)) | none => .fail) = Res.val v h' := e
        cases hs : size T el with
        | none => rw [hs] at e; cases e
        | some n =>
          simp only [hs] at e
          cases hfc : fillCells (elemPlace n) ps (cellsL z) with
          | none => rw [hfc] at e; cases e
          | some r =>
            rw [hfc] at e
            have e : Res.val (.agg ⟨r⟩) h = .val v h' := e
            injection e with e1 e2; subst e1; subst e2
            refine OpS.quiet fun m x => ?_
            obtain ⟨r', k1, k2⟩ := fill_sound (place' := fun i => some (i * n, n)) (fun i y hy => hy) x (hzc m) hfc
            refine ⟨.agg ⟨r'⟩, .agg k2, fun w => ?_⟩
            have hz' : (⟨z.cells.toList⟩ : Array Value) = z.cells := rfl
            rw [hz'] at k1
            simp only [Instr.build, Sem.run_bind, hr w, Result.andThen_ok, run_under tok hu, run_size tok hs, k1, Sem.run_pure]
      | _ => cases e

/-! ### Rows of zeros -/
theorem flatten_replicate_get (z : List Value) (hz : 0 < z.length) : ∀ (n i : Nat), i < n * z.length → (List.replicate n z).flatten[i]? = z[i % z.length]?
  | 0, i, h => by simp at h
  | n + 1, i, h => by
    rw [List.replicate_succ, List.flatten_cons]
    by_cases hi : i < z.length
    · rw [List.getElem?_append_left hi, Nat.mod_eq_of_lt hi]
    · rw [List.getElem?_append_right (by omega), flatten_replicate_get z hz n (i - z.length) (by rw [Nat.succ_mul] at h; omega), ← Nat.mod_eq_sub_mod (by omega)]
theorem length_replicate_flatten (z : List Value) (n : Nat) : (List.replicate n z).flatten.length = n * z.length := by simp
theorem zeros_eq (z : Array Value) (n k : Nat) (hk : k = n * z.size) : (Array.range k).map (fun i => z[i % z.size]!) = ⟨replicateZ z.toList n⟩ := by
  subst hk
  apply Array.ext'
  simp only [Array.toList_map, Array.toList_range]
  rw [replicateZ_eq]
  apply List.ext_getElem?
  intro i
  by_cases hi : i < n * z.size
  · have hz : 0 < z.size := by rcases Nat.eq_zero_or_pos z.size with h | h; · simp [h] at hi
                               · exact h
    have hm : i % z.size < z.size := Nat.mod_lt _ hz
    rw [flatten_replicate_get z.toList (by simpa using hz) n i (by simpa using hi)]
    simp [hi, hm]
  · have : (List.replicate n z.toList).flatten[i]? = none := by
      rw [List.getElem?_eq_none_iff, length_replicate_flatten]; simpa using hi
    rw [this]
    simp; omega
theorem LR.replicate {m : M} {z z' : List Value} (h : LR m z z') : ∀ n, LR m (replicateZ z n) (replicateZ z' n)
  | 0 => .nil
  | n + 1 => by
    show LR m (appL z (replicateZ z n)) (appL z' (replicateZ z' n))
    rw [appL_eq, appL_eq]; exact h.append (h.replicate n)
theorem zeroN_ok (tok : TabOK T P) {t : TypeId} {z : List Value} (h : zeroN T t = some z) : ∃ i x, T.info.get t = some i ∧ P.info? t = some i ∧ z = cellsL x ∧ z.length = i.size ∧ groundDeep x = true ∧ ∀ w, (zeroValue t).run P w = .ok x w := by
  unfold zeroN at h
  cases hi : T.info.get t with
  | none => rw [hi] at h; cases h
  | some i =>
    rw [hi] at h
    simp only at h
    cases hz : zeroG i.zero with
    | none => rw [hz] at h; cases h
    | some x =>
      rw [hz] at h
      simp only at h
      cases hb : Nat.beq (lenL (cellsL x)) i.size with
      | false => rw [hb] at h; cases h
      | true =>
        rw [hb] at h
        injection h with h
        obtain ⟨q1, q2⟩ := zeroG_some hz
        refine ⟨i, x, rfl, tok.info t i hi, h.symm, by rw [← h, ← lenL_eq]; exact nbeq_true hb, q2, fun w => by simp [zeroValue, run_typeInfo (tok.info t i hi), q1]⟩
theorem cells_toList (x : Value) : x.cells.toList = cellsL x := by cases x <;> rfl
end Go.Am
/- Each operation of the abstract machine, against the model's: slices that are made, addresses. -/
namespace Go.Am
open Go
variable {T : Tab} {P : Program}

theorem sliceNew_sound {h h' : H} {e : TypeId} {len cap : Nat} {c : List Value} {v : Value} (he : sliceNew h e len cap (some c) = .val v h') :
    Le h h' ∧ ∀ Γ m hD w c', Fin Γ h' → Inv T Γ m hD h w → LR m c c' → ∃ m' hD', MLe m m' ∧ VR m' v (.slice (some ⟨w.heap.size, 0, none⟩) len cap) ∧ Inv T Γ m' hD' h' { w with heap := w.heap.push (.cells ⟨c'⟩ e (0, 0)) } := by
  have he : Res.val (.slice (some ⟨h.next, 0, none⟩) len cap) (h.new (.cells c e false)) = .val v h' := he
  injection he with h1 h2
  subst h1; subst h2
  refine ⟨new_le _ _, fun Γ m hD w c' F I hc => ?_⟩
  obtain ⟨m', hD', k1, k2, k3⟩ := newCells_sound I F hc
  exact ⟨m', hD', k1, VR.slice (off := 0) k2 (.inl rfl), k3⟩

theorem zeros0 (z : List Value) (n : Nat) (h : n * z.length = 0) : replicateZ z n = [] := by
  rw [replicateZ_eq]
  apply List.eq_nil_of_length_eq_zero
  rw [length_replicate_flatten]; exact h
theorem zeroRow (tok : TabOK T P) {el : TypeId} {z : List Value} (hz : zeroN T el = some z) {n : Nat} (hs : size T el = some n) (len : Nat) :
    ∃ x : Value, (∀ w, (zeroValue el).run P w = .ok x w) ∧ (∀ m, LR m z z) ∧ (Array.range (len * n)).map (fun i => x.cells[i % x.cells.size]!) = ⟨replicateZ z len⟩ ∧
      (len * n = 0 → (Array.range (len * n)).map (fun i => (#[] : Array Value)[i % (#[] : Array Value).size]!) = ⟨replicateZ z len⟩) := by
  obtain ⟨i, x, q1, q2, q3, q4, q5, q6⟩ := zeroN_ok tok hz
  obtain ⟨i2, s1, _, s3⟩ := size_ok tok hs
  rw [q1] at s1; injection s1 with s1; subst s1
  have hlen : z.length = n := by omega
  have hx : x.cells.toList = z := by rw [cells_toList, q3]
  have hxs : x.cells.size = n := by rw [← hlen, ← hx]; simp
  refine ⟨x, q6, fun m => ?_, by rw [zeros_eq x.cells len (len * n) (by rw [hxs]), hx], fun h0 => ?_⟩
  · rw [q3]; exact LR.refl_ground m (groundDeep_cells q5)
  · rw [zeros0 z len (by rw [hlen]; exact h0), h0]; simp
theorem buildSliceOf_sound (tok : TabOK T P) {h h' : H} {t : TypeId} {len : Nat} {ps : List (Nat × Value)} {ps' : Array (Nat × Value)} {v : Value}
    (e : buildSliceOf T h len (T.under t) (some ps) = .val v h') : OpS T P h v h' (fun m => PartsR m ps ps'.toList) (Instr.buildSlice t len ps') := by
  cases hu : T.under t with
  | none => rw [hu] at e; cases e
  | some d =>
    rw [hu] at e
    cases d with
    | slice el =>
      have e : buildSliceBy h el len ps (size T el) (zeroN T el) = .val v h' := e
      cases hs : size T el with
      | none => rw [hs] at e; cases e
      | some n =>
        cases hz : zeroN T el with
        | none => rw [hs, hz] at e; cases e
        | some z =>
          rw [hs, hz] at e
          have e : cond (Nat.ble (Nat.mul len n) 16777216) (sliceNew h el len len (fillCells (elemPlace n) ps (replicateZ z len))) .fail = .val v h' := e
          cases hb : Nat.ble (Nat.mul len n) 16777216 with
          | false => rw [hb] at e; cases e
          | true =>
            rw [hb] at e
            have hle : len * n ≤ 16777216 := nble_true hb
            have e : sliceNew h el len len (fillCells (elemPlace n) ps (replicateZ z len)) = .val v h' := e
            cases hf : fillCells (elemPlace n) ps (replicateZ z len) with
            | none => rw [hf] at e; cases e
            | some r =>
              rw [hf] at e
              obtain ⟨l, k⟩ := sliceNew_sound (T := T) e
              refine ⟨l, fun Γ m hD w F I x => ?_⟩
              obtain ⟨x0, y1, hz1, y2, y3⟩ := zeroRow tok hz hs len
              obtain ⟨r', k1, k2⟩ := fill_sound (place' := fun i => some (i * n, n)) (fun i y hy => hy) x ((hz1 m).replicate len) hf
              obtain ⟨m', hD', j1, j2, j3⟩ := k Γ m hD w r' F I k2
              refine ⟨_, m', hD', _, ?_, j1, j2, j3⟩
              have hnot : ¬ len * n > 2 ^ 24 := by omega
              by_cases h0 : len * n = 0
              · rw [← y3 h0] at k1
                simp only [Instr.buildSlice, Sem.run_bind, run_under tok hu, Result.andThen_ok, run_size tok hs, if_neg hnot, if_pos h0, k1, run_newRow, Sem.run_pure]
              · rw [← y2] at k1
                simp only [Instr.buildSlice, Sem.run_bind, run_under tok hu, Result.andThen_ok, run_size tok hs, if_neg hnot, if_neg h0, y1, k1, run_newRow, Sem.run_pure]
    | _ => cases e

theorem wrap64 {n : Nat} (h : n ≤ 65536) : IntKind.i64.wrap (n : Int) = n := by
  simp [IntKind.wrap, IntKind.bits, IntKind.signed]
  omega
theorem makeSliceOf_sound (tok : TabOK T P) {h h' : H} {t : TypeId} {l c l' c' v : Value} (e : makeSliceOf T h (T.under t) (some l) (some c) = .val v h') :
    OpS T P h v h' (fun m => VR m l l' ∧ VR m c c') (Instr.makeSlice t l' c') := by
  cases hu : T.under t with
  | none => rw [hu] at e; cases e
  | some d =>
    rw [hu] at e
    unfold makeSliceOf at e
    split at e
    · rename_i el ki ln kj cn h1 h2 h3
      injection h1 with h1; subst h1
      injection h2 with h2; subst h2
      injection h3 with h3; subst h3
      cases hb : bytesOf T el with
      | none => rw [hb] at e; cases e
      | some b =>
        rw [hb] at e
        have e : makeSliceBy h el ln cn b (zeroN T el) = .val v h' := e
        cases hz : zeroN T el with
        | none => rw [hz] at e; cases e
        | some z =>
          rw [hz] at e
          have e : cond (cond (Nat.ble ln cn) (cond (Nat.ble cn 65536) (Nat.ble b 65536) false) false) (sliceNew h el ln cn (some (replicateZ z cn))) .fail = .val v h' := e
          cases b1 : Nat.ble ln cn with
          | false => rw [b1] at e; cases e
          | true =>
            cases b2 : Nat.ble cn 65536 with
            | false => rw [b1, b2] at e; cases e
            | true =>
              cases b3 : Nat.ble b 65536 with
              | false => rw [b1, b2, b3] at e; cases e
              | true =>
                rw [b1, b2, b3] at e
                have e : sliceNew h el ln cn (some (replicateZ z cn)) = .val v h' := e
                have n1 := nble_true b1
                have n2 := nble_true b2
                have n3 := nble_true b3
                obtain ⟨lh, k⟩ := sliceNew_sound (T := T) e
                refine ⟨lh, fun Γ m hD w F I x => ?_⟩
                obtain ⟨x1, x2⟩ := x
                cases x1; cases x2
                obtain ⟨i, q1, q2⟩ := onO_some hb rfl
                injection q2 with q2
                have hi := tok.info el i q1
                have hsz : size T el = some i.size := by unfold size; rw [q1]; rfl
                obtain ⟨x0, y1, hz1, y2, y3⟩ := zeroRow tok hz hsz cn
                obtain ⟨m', hD', j1, j2, j3⟩ := k Γ m hD w (replicateZ z cn) F I ((hz1 m).replicate cn)
                refine ⟨_, m', hD', _, ?_, j1, j2, j3⟩
                have wl : IntKind.i64.wrap (Int.ofNat ln) = (ln : Int) := wrap64 (by omega)
                have wc : IntKind.i64.wrap (Int.ofNat cn) = (cn : Int) := wrap64 (by omega)
                have hbig : i.bytes * cn ≤ 65536 * 65536 := Nat.mul_le_mul (by omega) n2
                have t1 : (decide ((cn : Int) < 0) || decide ((i.bytes : Int) * (cn : Int) > 2 ^ 48)) = false := by
                  have : (i.bytes : Int) * (cn : Int) = ((i.bytes * cn : Nat) : Int) := by simp
                  rw [this]; simp; omega
                have t2 : decide ((ln : Int) < 0) = false := by simp
                have t3 : decide ((ln : Int) > (cn : Int)) = false := by simp; omega
                by_cases h0 : cn * i.size = 0
                · simp only [Instr.makeSlice, Sem.run_bind, run_under tok hu, Result.andThen_ok, Go.asInt, asIntOf, Sem.run_pure, run_typeInfo hi, wl, wc, t1, t2, t3, Bool.or_false, Bool.false_eq_true, if_false,
                    run_askRoom, Int.toNat_natCast, run_size tok hsz, if_pos h0, y3 h0, run_newRow]
                · simp only [Instr.makeSlice, Sem.run_bind, run_under tok hu, Result.andThen_ok, Go.asInt, asIntOf, Sem.run_pure, run_typeInfo hi, wl, wc, t1, t2, t3, Bool.or_false, Bool.false_eq_true, if_false,
                    run_askRoom, Int.toNat_natCast, run_size tok hsz, if_neg h0, y1, y2, run_newRow]
    · cases e
end Go.Am
