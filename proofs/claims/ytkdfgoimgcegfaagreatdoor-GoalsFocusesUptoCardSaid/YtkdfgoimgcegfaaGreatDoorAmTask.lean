/- Contracts, put together: a table of answers; a function on data. -/
import Derived.Test.YtkdfgoimgcegfaaGreatDoorAmSym
set_option linter.unusedSectionVars false
set_option linter.unusedSimpArgs false
set_option linter.unusedVariables false
namespace Go.Am
open Go
variable {T : Tab} {P : Program}

/-- Answers to calls of functions that capture nothing, by function. -/
abbrev Con := FuncId → List Value → H → Option Ans
def taskOf (C : Con) : Task → Option Ans
  | .call (.func (.func g) ⟨[]⟩ ⟨[]⟩) args h none => C g args h
  | _ => none
abbrev call0 (g : FuncId) (args : List Value) (h : H) : Task := .call (.func (.func g) #[] #[]) args h none
noncomputable abbrev evK (T : Tab) (C : Con) (n : Nat) : Task → Ans := evalC T (taskOf C) n
def ConS (T : Tab) (P : Program) (C : Con) : Prop := ∀ g args h a, C g args h = some a → CallS T P (.func (.func g) #[] #[]) args h none a
theorem conOK_of {C : Con} (hC : ConS T P C) : ConOK T P (taskOf C) := by
  intro t a h
  unfold taskOf at h
  split at h
  · exact ⟨_, _, _, _, rfl, hC _ _ _ _ h⟩
  · cases h
theorem evK_sound (tok : TabOK T P) {C : Con} (hC : ConS T P C) (n : Nat) : EvS T P (evK T C n) := evalC_sound tok (conOK_of hC) n

section
variable {C : Con} (n : Nat)
theorem evK_con {g : FuncId} {args : List Value} {h : H} {a : Ans} (hc : C g args h = some a) : evK T C n (call0 g args h) = a := evalC_some (C := taskOf C) (t := call0 g args h) hc n
theorem evK_call {g : FuncId} {args : List Value} {h : H} (hc : C g args h = none) : evK T C (n + 1) (call0 g args h) = callFn T (evK T C n) g args h none (T.func g) := by
  have := evalC_none (T := T) (C := taskOf C) (t := call0 g args h) hc n
  rw [show evK T C (n + 1) (call0 g args h) = _ from this]
  show callFn T (evK T C n) g ([] ++ args ++ []) h none (T.func g) = _
  rw [List.nil_append, List.append_nil]
theorem evK_loop (fr : Fr) (b : Code) (s : S) : evK T C (n + 1) (.loop fr b s) = runCode T (evK T C n) fr (.loop b) s := rfl
theorem evK_run (fr : Fr) (b : Code) (s : S) : evK T C (n + 1) (.run fr b s) = runCode T (evK T C n) fr b s := rfl
theorem evK_unwind (fn : Func) (tm : Tr Value) (h : H) (ab : Option (List PanicEntry)) : evK T C (n + 1) (.unwind fn ⟨tm, [], h, ab⟩ none) = retOf ab (results T tm fn.results.toList h) := rfl
theorem evK_unwindP (fn : Func) (tm : Tr Value) (h : H) (ab : Option (List PanicEntry)) (c : List PanicEntry) : evK T C (n + 1) (.unwind fn ⟨tm, [], h, ab⟩ (some c)) = .pan c h ab := rfl
end
namespace Sym
variable {ev : Task → Ans}
@[simp] theorem callFn_some (g : FuncId) (args : List Value) (h : H) (ab : Option (List PanicEntry)) (fn : Func) : callFn T ev g args h ab (some fn) = bodyRun T ev g args h ab fn fn.body := rfl
@[simp] theorem bodyRun_some (g : FuncId) (args : List Value) (h : H) (ab : Option (List PanicEntry)) (fn : Func) (c : Code) : bodyRun T ev g args h ab fn (some c) = bodyDone ev fn (runCode T ev ⟨g, none⟩ c ⟨initT args 0 .nil, [], h, ab⟩) := rfl
@[simp] theorem bodyDone_normal (fn : Func) (s : S) : bodyDone ev fn (.code .normal s) = ev (.unwind fn s none) := rfl
@[simp] theorem bodyDone_ret (fn : Func) (s : S) : bodyDone ev fn (.code .ret s) = ev (.unwind fn s none) := rfl
@[simp] theorem bodyDone_panic (fn : Func) (s : S) (c : List PanicEntry) : bodyDone ev fn (.code (.panic c) s) = ev (.unwind fn s (some c)) := rfl
@[simp] theorem results_nil (tm : Tr Value) (h : H) : Am.results T tm [] h = .ok [] h := rfl
@[simp] theorem results_tmp (tm : Tr Value) (t : Tmp) (l : List ResultVar) (h : H) : Am.results T tm (.tmp t :: l) h = resThen (Am.results T tm l) (vres h (tm.get t)) := rfl
@[simp] theorem results_cell (tm : Tr Value) (a t : Nat) (l : List ResultVar) (h : H) : Am.results T tm (.cell a t :: l) h = resThen (Am.results T tm l) (loadLocOf T h t (tm.get a)) := rfl
@[simp] theorem resThen_val (k : H → Vals) (v : Value) (h : H) : resThen k (.val v h) = addVal v (k h) := rfl
@[simp] theorem addVal_ok (v : Value) (vs : List Value) (h : H) : addVal v (.ok vs h) = .ok (v :: vs) h := rfl
@[simp] theorem retOf_one (ab : Option (List PanicEntry)) (v : Value) (h : H) : retOf ab (.ok [v] h) = .ret v h ab := rfl
@[simp] theorem retOf_nil (ab : Option (List PanicEntry)) (h : H) : retOf ab (.ok [] h) = .ret (.tuple #[]) h ab := rfl
@[simp] theorem retOf_two (ab : Option (List PanicEntry)) (v w : Value) (l : List Value) (h : H) : retOf ab (.ok (v :: w :: l) h) = .ret (.tuple ⟨v :: w :: l⟩) h ab := rfl
end Sym

/-! ### A function on data -/
/-- Called with what x is written as, g answers f x, in every memory. -/
def FnC (T : Tab) (P : Program) {α : Type} (g : FuncId) (pre : α → Prop) (enc : α → List Value) (f : α → Value) : Prop := ∀ x, pre x → ∀ h, CallS T P (.func (.func g) #[] #[]) (enc x) h none (.ret (f x) h none)
open Classical in
noncomputable def fnC {α : Type} (pre : α → Prop) (enc : α → List Value) (f : α → Value) (args : List Value) (h : H) : Option Ans :=
  if hx : ∃ x, pre x ∧ enc x = args then some (.ret (f (Classical.choose hx)) h none) else none
theorem fnC_enc {α : Type} {pre : α → Prop} {enc : α → List Value} {f : α → Value} (hf : ∀ x y, enc x = enc y → f x = f y) {x : α} (hp : pre x) (h : H) : fnC pre enc f (enc x) h = some (.ret (f x) h none) := by
  unfold fnC
  have hx : ∃ y, pre y ∧ enc y = enc x := ⟨x, hp, rfl⟩
  rw [dif_pos hx, hf _ _ (Classical.choose_spec hx).2]
theorem fnC_sound {α : Type} {g : FuncId} {pre : α → Prop} {enc : α → List Value} {f : α → Value} (hf : FnC T P g pre enc f) {args : List Value} {h : H} {a : Ans} (e : fnC pre enc f args h = some a) : CallS T P (.func (.func g) #[] #[]) args h none a := by
  unfold fnC at e
  split at e
  · rename_i hx
    injection e with e
    subst e
    have := hf (Classical.choose hx) (Classical.choose_spec hx).1 h
    rw [(Classical.choose_spec hx).2] at this
    exact this
  · cases e
/-- One more function. -/
def addC (g : FuncId) (c : List Value → H → Option Ans) (C : Con) : Con := fun g' args h => if g' = g then c args h else C g' args h
def noC : Con := fun _ _ _ => none
theorem noC_sound : ConS T P noC := fun _ _ _ _ h => by cases h
theorem addC_eq (g : FuncId) (c : List Value → H → Option Ans) (C : Con) (args : List Value) (h : H) : addC g c C g args h = c args h := if_pos rfl
theorem addC_ne {g g' : FuncId} (hg : g' ≠ g) (c : List Value → H → Option Ans) (C : Con) (args : List Value) (h : H) : addC g c C g' args h = C g' args h := if_neg hg
theorem addC_sound {α : Type} {g : FuncId} {pre : α → Prop} {enc : α → List Value} {f : α → Value} {C : Con} (hC : ConS T P C) (hf : FnC T P g pre enc f) : ConS T P (addC g (fnC pre enc f) C) := by
  intro g' args h a e
  by_cases hg : g' = g
  · subst hg; rw [addC_eq] at e; exact fnC_sound hf e
  · rw [addC_ne hg] at e; exact hC _ _ _ _ e

/-- A table answers as a function does. -/
def Has (C : Con) {α : Type} (g : FuncId) (pre : α → Prop) (enc : α → List Value) (f : α → Value) : Prop := ∀ x, pre x → ∀ h, C g (enc x) h = some (.ret (f x) h none)
theorem Has.add {α : Type} {g : FuncId} {pre : α → Prop} {enc : α → List Value} {f : α → Value} {C : Con} (hf : ∀ x y, enc x = enc y → f x = f y) : Has (addC g (fnC pre enc f) C) g pre enc f :=
  fun _ hp h => by rw [addC_eq]; exact fnC_enc hf hp h
theorem Has.skip {α : Type} {g g' : FuncId} {pre : α → Prop} {enc : α → List Value} {f : α → Value} {C : Con} {c : List Value → H → Option Ans} (hg : g ≠ g') (h : Has C g pre enc f) : Has (addC g' c C) g pre enc f :=
  fun x hp m => by rw [addC_ne hg]; exact h x hp m
theorem Has.ev {α : Type} {g : FuncId} {pre : α → Prop} {enc : α → List Value} {f : α → Value} {C : Con} (h : Has C g pre enc f) (n : Nat) {x : α} (hp : pre x) (m : H) : evK T C n (call0 g (enc x) m) = .ret (f x) m none :=
  evK_con n (h x hp m)

/-- A function on data, from its body. -/
theorem fnC_of (tok : TabOK T P) {g : FuncId} {args : List Value} {v d : Value} {h1 : H} (C : Con) (hC : ConS T P C) (hp : PureL args) (n : Nat)
    (hrun : callFn T (evK T C n) g args H.empty none (T.func g) = .ret v h1 none) (hd : DatV h1.get v d) (h : H) : CallS T P (.func (.func g) #[] #[]) args h none (.ret d h none) :=
  contract tok (evK_sound tok hC n) hp hrun rfl (.ret hd)
/-- By recursion. -/
theorem fnC_rec {α : Type} {g : FuncId} {pre : α → Prop} {enc : α → List Value} {f : α → Value} (μ : α → Nat) (step : ∀ x, pre x → FnC T P g (fun y => μ y < μ x ∧ pre y) enc f → ∀ h, CallS T P (.func (.func g) #[] #[]) (enc x) h none (.ret (f x) h none)) :
    FnC T P g pre enc f := by
  have key : ∀ n x, μ x < n → pre x → ∀ h, CallS T P (.func (.func g) #[] #[]) (enc x) h none (.ret (f x) h none) := by
    intro n
    induction n with
    | zero => intro x hx; omega
    | succ n ih => intro x hx hp; exact step x hp fun y hy => ih y (by omega) hy.2
  exact fun x hp => key _ x (Nat.lt_succ_self _) hp

/-! ### Parts of a function's text -/
def sub (b : Bool) : Code → Code
  | .seq x y => cond b y x
  | .cond _ x y => cond b y x
  | .block _ x => x
  | .loop x => x
  | .scope x => x
  | c => c
def sel : List Bool → Code → Code
  | [], c => c
  | b :: l, c => sel l (sub b c)
def piece (f : Func) (l : List Bool) : Code := sel l (f.body.getD .skip)
/-- A run of code has come to the function's end, with these results. -/
def Done (T : Tab) (rs : List ResultVar) (vs : List Value) (h2 : H) (ab : Option (List PanicEntry)) : Ans → Prop
  | .code .ret ⟨tm, [], h1, ab'⟩ => ab' = ab ∧ Am.results T tm rs h1 = .ok vs h2
  | .code .normal ⟨tm, [], h1, ab'⟩ => ab' = ab ∧ Am.results T tm rs h1 = .ok vs h2
  | _ => False
@[simp] theorem done_ret (rs : List ResultVar) (vs : List Value) (h1 h2 : H) (ab ab' : Option (List PanicEntry)) (tm : Tr Value) : Done T rs vs h2 ab (.code .ret ⟨tm, [], h1, ab'⟩) = (ab' = ab ∧ Am.results T tm rs h1 = .ok vs h2) := rfl
@[simp] theorem done_normal (rs : List ResultVar) (vs : List Value) (h1 h2 : H) (ab ab' : Option (List PanicEntry)) (tm : Tr Value) : Done T rs vs h2 ab (.code .normal ⟨tm, [], h1, ab'⟩) = (ab' = ab ∧ Am.results T tm rs h1 = .ok vs h2) := rfl
/-- A function, run to its end. -/
theorem fn_run {C : Con} {g : FuncId} {fn : Func} {c : Code} {args : List Value} {h h2 : H} {n : Nat} {vs : List Value} {ab : Option (List PanicEntry)} (hT : T.func g = some fn) (hb : fn.body = some c) {rs : List ResultVar} (hr : fn.results.toList = rs)
    (hcode : Done T rs vs h2 ab (runCode T (evK T C (n + 1)) ⟨g, none⟩ c ⟨initT args 0 .nil, [], h, none⟩)) :
    callFn T (evK T C (n + 1)) g args h none (T.func g) = retOf ab (.ok vs h2) := by
  rw [hT, Sym.callFn_some, hb, Sym.bodyRun_some]
  generalize runCode T (evK T C (n + 1)) ⟨g, none⟩ c ⟨initT args 0 .nil, [], h, none⟩ = a at hcode
  unfold Done at hcode
  split at hcode
  · obtain ⟨e1, e2⟩ := hcode
    rw [Sym.bodyDone_ret, evK_unwind, hr, e2, e1]
  · obtain ⟨e1, e2⟩ := hcode
    rw [Sym.bodyDone_normal, evK_unwind, hr, e2, e1]
  · cases hcode
/-- A loop: each round but the last comes nearer to the end. -/
theorem loop_rule {C : Con} {fr : Fr} {B : Code} (k : Nat) (I : Nat → S → Prop) (Q : Ans → Prop)
    (hstep : ∀ j s m, I j s → k ≤ m → (∃ s' j', runCode T (evK T C m) fr B s = .code .normal s' ∧ j' < j ∧ I j' s') ∨ (∃ e s', runCode T (evK T C m) fr B s = .code e s' ∧ e ≠ .normal ∧ Q (.code e s'))) :
    ∀ m j s, I j s → j + k ≤ m → Q (runCode T (evK T C m) fr (.loop B) s) := by
  intro m
  induction m with
  | zero =>
    intro j s hI hm
    rcases hstep j s 0 hI (by omega) with ⟨s', j', _, h2, _⟩ | ⟨e, s', h1, h2, h3⟩
    · omega
    · rw [Sym.run_loop, h1]; cases e <;> first | exact h3 | exact absurd rfl h2
  | succ m ih =>
    intro j s hI hm
    rcases hstep j s (m + 1) hI (by omega) with ⟨s', j', h1, h2, h3⟩ | ⟨e, s', h1, h2, h3⟩
    · rw [Sym.run_loop, h1, Sym.loopK_normal, evK_loop]
      exact ih j' s' h3 (by omega)
    · rw [Sym.run_loop, h1]; cases e <;> first | exact h3 | exact absurd rfl h2
theorem loop_end {C : Con} {fr : Fr} {B : Code} {m : Nat} {s : S} {X : Ans} (hX : runCode T (evK T C m) fr (.loop B) s = X) (k : Nat) (I : Nat → S → Prop) (Q : Ans → Prop) (j : Nat) (h0 : I j s) (hm : j + k ≤ m)
    (hstep : ∀ j s m, I j s → k ≤ m → (∃ s' j', runCode T (evK T C m) fr B s = .code .normal s' ∧ j' < j ∧ I j' s') ∨ (∃ e s', runCode T (evK T C m) fr B s = .code e s' ∧ e ≠ .normal ∧ Q (.code e s'))) : Q X := by
  rw [← hX]; exact loop_rule k I Q hstep m j s h0 hm
@[simp] theorem touch_low {h : H} {b : Nat} (hb : h.base = 0) : h.touch b = h := by rw [touch_eq, if_pos (by omega)]
end Go.Am
namespace Go.Am
open Go
variable {T : Tab} {P : Program}
/-! ### Functions of whose answer only the kind is said -/
theorem fnE {α β : Type} [Inhabited β] {g : FuncId} {pre : α → Prop} {enc : α → List Value} (r : β → Value) (hE : ∀ x, pre x → ∃ n, ∀ h, CallS T P (.func (.func g) #[] #[]) (enc x) h none (.ret (r n) h none)) :
    ∃ f : α → β, FnC T P g pre enc (fun x => r (f x)) := by
  classical
  refine ⟨fun x => if hx : pre x then Classical.choose (hE x hx) else default, fun x hx h => ?_⟩
  have := Classical.choose_spec (hE x hx) h
  simpa [dif_pos hx] using this
theorem fnE_rec {α β : Type} [Inhabited β] {g : FuncId} {pre : α → Prop} {enc : α → List Value} (r : β → Value) (μ : α → Nat)
    (step : ∀ x, pre x → (∃ f : α → β, FnC T P g (fun y => μ y < μ x ∧ pre y) enc (fun y => r (f y))) → ∃ n, ∀ h, CallS T P (.func (.func g) #[] #[]) (enc x) h none (.ret (r n) h none)) :
    ∃ f : α → β, FnC T P g pre enc (fun x => r (f x)) := by
  refine fnE r fun x hx => ?_
  have key : ∀ n x, μ x < n → pre x → ∃ v, ∀ h, CallS T P (.func (.func g) #[] #[]) (enc x) h none (.ret (r v) h none) := by
    intro n
    induction n with
    | zero => intro x hx; omega
    | succ n ih => intro x hx hp; exact step x hp (fnE r fun y hy => ih y (by omega) hy.2)
  exact key _ x (Nat.lt_succ_self _) hx
theorem fnE_of (tok : TabOK T P) {β : Type} {g : FuncId} {fn : Func} {c : Code} {args : List Value} {r : β → Value} (C : Con) (hC : ConS T P C) (hp : PureL args) (hr : ∀ n, PureV (r n)) (n : Nat) (hT : T.func g = some fn) (hb : fn.body = some c)
    {rs : List ResultVar} (hrs : fn.results.toList = rs) (hcode : ∃ v h2, Done T rs [r v] h2 none (runCode T (evK T C (n + 1)) ⟨g, none⟩ c ⟨initT args 0 .nil, [], H.empty, none⟩)) :
    ∃ v, ∀ h, CallS T P (.func (.func g) #[] #[]) args h none (.ret (r v) h none) := by
  obtain ⟨v, h2, hd⟩ := hcode
  exact ⟨v, fun h => fnC_of tok C hC hp (n + 1) (fn_run hT hb hrs hd) (.pure (hr v)) h⟩
end Go.Am
/- Contracts: arguments that lie in the caller's memory, taken as data. -/
namespace Go.Am
open Go
variable {T : Tab} {P : Program}
section
variable {Γ : Ctx} {m m2 : M} {hD : Nat → Option AObj} {h : H} {w : World} {g : Nat → Option AObj}
mutual
theorem VR.datOn (I : Inv T Γ m hD h w) (ht : ∀ b o, g b = some o → h.get b = some o ∧ Γ.tch b) (hi : ∀ c l, m.im c = some l → m2.im c = some l)
    (hnew : ∀ b pl c e f, h.get b ≠ none → m b = some pl → w.heap[pl.blk]? = some (.cells c e f) → m2.im pl.blk = some c.toList) : ∀ {v v' d : Value}, DatV g v d → VR m v v' → VR m2 d v'
  | _, _, _, .pure hp, hv => hv.carry hi hp
  | _, _, _, .agg hd, hv => by cases hv with | agg h => exact .agg (LR.datOn I ht hi hnew hd h)
  | _, _, _, .tuple hd, hv => by cases hv with | tuple h => exact .tuple (LR.datOn I ht hi hnew hd h)
  | _, _, _, .iface t hd, hv => by cases hv with | iface _ h => exact .iface t (VR.datOn I ht hi hnew hd h)
  | _, _, _, .slice0, hv => by cases hv; exact .data0 (fun _ => rfl) (.inl rfl)
  | _, _, _, .slice (b := b) (off := off) (sz := sz) (pre := pre) (es := es) (post := post) (ds := ds) (len := len) hg ho hs hl hc hd, hv => by
    have hdl := hd.length
    obtain ⟨hg, htb⟩ := ht _ _ hg
    rcases hv.slice_inv with ⟨pl, cap', hm, hcap, rfl⟩ | ⟨h4, h5, pl, a, hm, rfl⟩
    · obtain ⟨c', pre2, post2, e', R⟩ := I.row hm hg htb
      obtain ⟨p', r', rfl, k1, k2⟩ := R.rel.split
      obtain ⟨f', q', rfl, k3, k4⟩ := k2.split
      obtain ⟨es', rfl, k5⟩ := k3.unflat
      have him := hnew _ pl _ _ _ (by rw [hg]; simp) hm R.heap
      have hs' : ∀ x ∈ es', x.cells.toList.length = sz := fun x hx => by
        obtain ⟨i, hi, hxi⟩ := List.mem_iff_getElem.1 hx
        have hlt : i < es.length := by rw [← k5.length]; exact hi
        obtain ⟨x2, e2, hx2⟩ := k5.get (i := i) (List.getElem?_eq_getElem hlt)
        have : x2 = x := by rw [List.getElem?_eq_getElem hi, hxi] at e2; injection e2 with e2; exact e2.symm
        subst this
        rw [hx2.cells.length]
        exact hs _ (List.getElem_mem hlt)
      have key := VR.data (m := m2) (es := ds) (es' := es') (caps := []) (pre := pre2 ++ p') (post := q' ++ post2) (off := 0) (len := len) (cap' := cap') (c := pl.blk) (p := #[]) (by rw [him]; simp) (LR.datOn I ht hi hnew hd k5) hs'
        (by omega) (Nat.le_trans hc (hcap.le R.pos)) (.inl rfl)
      have hpl : (pre2 ++ p').length + 0 * sz = pl.sh + off := by rw [List.length_append, R.pre, k1.length, Nat.zero_mul, Nat.add_zero, ← ho]
      rw [hpl] at key
      exact key
    · subst h4
      exact .data0 (fun h => by cases h) (.inl rfl)
theorem LR.datOn (I : Inv T Γ m hD h w) (ht : ∀ b o, g b = some o → h.get b = some o ∧ Γ.tch b) (hi : ∀ c l, m.im c = some l → m2.im c = some l)
    (hnew : ∀ b pl c e f, h.get b ≠ none → m b = some pl → w.heap[pl.blk]? = some (.cells c e f) → m2.im pl.blk = some c.toList) : ∀ {l l' d : List Value}, DatL g l d → LR m l l' → LR m2 d l'
  | _, _, _, .nil, hv => by cases hv; exact .nil
  | _, _, _, .cons hd hl, hv => by cases hv with | cons h1 h2 => exact .cons (VR.datOn I ht hi hnew hd h1) (LR.datOn I ht hi hnew hl h2)
end
end
/-- All rows of a world, as data. -/
def imW (w : World) : M := ⟨fun _ => none, fun c => match w.heap[c]? with | some (.cells cs _ _) => some cs.toList | _ => none⟩
theorem imW_some {w : World} {c : Nat} {l : List Value} (h : (imW w).im c = some l) : ∃ e f, w.heap[c]? = some (.cells ⟨l⟩ e f) := by
  have h : (match w.heap[c]? with | some (.cells cs _ _) => some cs.toList | _ => none) = some l := h
  split at h
  · rename_i cs e f hw
    injection h with h
    subst h
    exact ⟨e, f, hw⟩
  · cases h
theorem imW_of {w : World} {c : Nat} {cs : Array Value} {e : TypeId} {f : Nat × Nat} (h : w.heap[c]? = some (.cells cs e f)) : (imW w).im c = some cs.toList := by
  show (match w.heap[c]? with | some (.cells cs _ _) => some cs.toList | _ => none) = _
  rw [h]
/-- What of a memory is young enough to be read without a note. -/
noncomputable def lowG (h : H) (b : Nat) : Option AObj := if h.base ≤ b then h.get b else none
theorem startW (N : Nat) (w : World) : Inv T ⟨w, imW w, fun _ => none, 0, N, fun _ => True, fun _ => True⟩ (imW w) (fun _ => none) H.empty w where
  obj := fun _ _ h => by cases h
  inj := fun _ _ _ _ h => absurd rfl h
  old := fun _ _ => rfl
  size := Nat.le_refl _
  young := fun _ _ h => absurd rfl h
  same := .refl _
  agree := fun _ h => absurd h (Nat.not_lt_zero _)
  dom := fun _ _ h => by cases h
  fresh := fun _ _ _ => ⟨rfl, rfl⟩
  baseLe := Nat.le_refl _
  keepM := .refl _
  outM := fun _ _ => rfl
  startLe := Nat.le_refl _
  keepH := fun _ _ => rfl
  imm := fun c l hc => ⟨imW_some hc, fun _ _ h => absurd rfl h⟩
  outIm := fun _ _ => rfl
theorem calls_mem {g : FuncId} {d vs : List Value} {r : Value} {h : H} (hc : CallS T P (.func (.func g) #[] #[]) d H.empty none (.ret r H.empty none)) (hr : ground r = true) (hd : DatL (lowG h) vs d) :
    CallS T P (.func (.func g) #[] #[]) vs h none (.ret r h none) := by
  intro h' ab' hfin
  injection hfin with hfin; injection hfin with e1 e2; subst e1; subst e2
  obtain ⟨_, hc⟩ := hc H.empty none rfl
  refine ⟨.refl _, fun Γ m hD K f' args' cab w hK F I hv hl hpr hk => ?_⟩
  have hl2 : LR (imW w) d args' := LR.datOn I (fun b o hb => by
      unfold lowG at hb
      split at hb
      · rename_i q; exact ⟨hb, (F.hi b q).1⟩
      · cases hb) (fun c l hc => by
      obtain ⟨⟨e, f, k⟩, _⟩ := I.imm c l hc
      exact imW_of k) (fun b pl c e f _ _ hw => imW_of hw) hd hl
  have hvf : f' = .func (.func g) #[] #[] := by
    cases hv with
    | func _ a b => cases a; cases b; rfl
  subst hvf
  obtain ⟨nx, fr0, k1, k2, m', hD', cab', w', cr, k3, k4, k5, k6, k7, k8⟩ := hc ⟨w, imW w, fun _ => none, 0, 0, fun _ => True, fun _ => True⟩ (imW w) (fun _ => none) K _ args' cab w hK
    ⟨Nat.le_refl _, fun _ _ => ⟨trivial, trivial⟩, fun _ _ => trivial, fun _ _ => trivial, fun _ _ => trivial⟩ (startW 0 w) (.func g .nil .nil) hl2 (by cases hpr; exact .none) hk
  have hold : ∀ c, c < w.heap.size → w'.heap[c]? = w.heap[c]? := k4.old
  refine ⟨nx, fr0, k1, k2, m, hD, cab', w', cr, .refl _, ?_, (by cases k5; exact .none), k6, ?_, k8⟩
  · exact
    { obj := fun b o hb => by
        obtain ⟨pl, o', q1, q2, q3⟩ := I.obj b o hb
        exact ⟨pl, o', q1, by rw [hold _ (Array.getElem?_eq_some_iff.1 q2).1]; exact q2, q3⟩
      inj := I.inj
      old := fun c hc => by
        have := I.size
        rw [hold c (by omega)]; exact I.old c hc
      size := Nat.le_trans I.size k4.size, young := I.young, same := I.same.trans k4.same, agree := I.agree, dom := I.dom, fresh := I.fresh, baseLe := I.baseLe,
      keepM := I.keepM, outM := I.outM, startLe := I.startLe, keepH := I.keepH
      imm := fun c l hc => by
        obtain ⟨⟨e, f, k⟩, q⟩ := I.imm c l hc
        exact ⟨⟨e, f, by rw [hold _ (Array.getElem?_eq_some_iff.1 k).1]; exact k⟩, q⟩
      outIm := I.outIm }
  · cases k7 with
    | ret hvr =>
      have := hvr.ground hr
      subst this
      exact .ret (VR.refl_of_ground hr fun _ _ _ => trivial)

/-! A table's answers to calls with arguments in memory: of which only the kind is said. -/
open Classical in
noncomputable def memC {α β : Type} (pre : α → Prop) (enc : α → List Value) (r : β → Value) (f : α → β) (args : List Value) (h : H) : Option Ans :=
  if hx : ∃ x, pre x ∧ DatL (lowG h) args (enc x) then some (.ret (r (f (Classical.choose hx))) h none) else none
theorem addM_sound {α β : Type} {g : FuncId} {pre : α → Prop} {enc : α → List Value} {r : β → Value} {f : α → β} {C : Con} (hC : ConS T P C) (hr : ∀ n, ground (r n) = true) (hf : FnC T P g pre enc (fun x => r (f x))) : ConS T P (addC g (memC pre enc r f) C) := by
  intro g' args h a e
  by_cases hg : g' = g
  · subst hg
    rw [addC_eq] at e
    unfold memC at e
    split at e
    · rename_i hx
      injection e with e
      subst e
      obtain ⟨q1, q2⟩ := Classical.choose_spec hx
      exact calls_mem (hf _ q1 H.empty) (hr _) q2
    · cases e
  · rw [addC_ne hg] at e; exact hC _ _ _ _ e
def HasE (C : Con) {α β : Type} (g : FuncId) (pre : α → Prop) (enc : α → List Value) (r : β → Value) : Prop := ∀ x, pre x → ∀ args h, DatL (lowG h) args (enc x) → ∃ y, C g args h = some (.ret (r y) h none)
theorem HasE.add {α β : Type} {g : FuncId} {pre : α → Prop} {enc : α → List Value} {r : β → Value} {f : α → β} {C : Con} : HasE (addC g (memC pre enc r f) C) g pre enc r := by
  intro x hx args h hd
  rw [addC_eq]
  unfold memC
  have he : ∃ x, pre x ∧ DatL (lowG h) args (enc x) := ⟨x, hx, hd⟩
  rw [dif_pos he]
  exact ⟨_, rfl⟩
theorem HasE.skip {α β : Type} {g g' : FuncId} {pre : α → Prop} {enc : α → List Value} {r : β → Value} {C : Con} {c : List Value → H → Option Ans} (hg : g ≠ g') (h : HasE C g pre enc r) : HasE (addC g' c C) g pre enc r :=
  fun x hp args m hd => by rw [addC_ne hg]; exact h x hp args m hd
theorem HasE.ev {α β : Type} {g : FuncId} {pre : α → Prop} {enc : α → List Value} {r : β → Value} {C : Con} (h : HasE C g pre enc r) {x : α} (hp : pre x) {args : List Value} {m : H} (hd : DatL (lowG m) args (enc x)) :
    ∃ y, ∀ n, evK T C n (call0 g args m) = .ret (r y) m none := by
  obtain ⟨y, hy⟩ := h x hp args m hd
  exact ⟨y, fun n => evK_con n hy⟩
/-- On data. -/
theorem HasE.data {α β : Type} {g : FuncId} {pre : α → Prop} {enc : α → List Value} {r : β → Value} {C : Con} (h : HasE C g pre enc r) {x : α} (hp : pre x) (hq : PureL (enc x)) :
    ∃ y : H → β, ∀ n m, evK T C n (call0 g (enc x) m) = .ret (r (y m)) m none := by
  have : ∀ m : H, ∃ y, ∀ n, evK T C n (call0 g (enc x) m) = .ret (r y) m none := fun m => h.ev hp (DatL.pure hq)
  exact ⟨fun m => Classical.choose (this m), fun n m => Classical.choose_spec (this m) n⟩
end Go.Am
