/- Layer 35: the check, exactly, in the program's text. -/
import Derived.Test.YtkdfgoimgcegfaaGreatDoorE35m
set_option linter.unusedSectionVars false
set_option linter.unusedSimpArgs false
set_option linter.unusedVariables false
namespace Go.Am
open Go
variable {T : Tab} {P : Program} {C : Con}
abbrev colD (D : Nat) : List Deferred := [{ target := .collected D, args := #[] }]
theorem evK_unwindG (n : Nat) (fn : Func) (s : S) (mode : Option (List PanicEntry)) : evK T C (n + 1) (.unwind fn s mode) = unwindK T (evK T C n) fn mode s := evalC_none (T := T) (C := taskOf C) (t := .unwind fn s mode) rfl n
/-- A function that has ranged over a function, run to its end. -/
theorem fn_run_rf {g : FuncId} {fn : Func} {c : Code} {args : List Value} {h h1 h2 : H} {n D : Nat} {vs : List Value} {tm : Tr Value} (hT : T.func g = some fn) (hb : fn.body = some c) {rs : List ResultVar} (hr : fn.results.toList = rs)
    (hcode : runCode T (evK T C (n + 2)) ⟨g, none⟩ c ⟨initT args 0 .nil, [], h, none⟩ = .code .ret ⟨tm, colD D, h1, none⟩) (hd : h1.get D = some (.deferred (some []))) (hres : Am.results T tm rs (h1.put D (.deferred none)) = .ok vs h2) :
    callFn T (evK T C (n + 2)) g args h none (T.func g) = retOf none (.ok vs h2) := by
  rw [hT, Sym.callFn_some, hb, Sym.bodyRun_some, hcode, Sym.bodyDone_ret, evK_unwindG]
  show collectedK (evK T C (n + 1)) fn [] tm h1 none none D (h1.get D) = _
  rw [hd]
  show evK T C (n + 1) (.unwind fn ⟨tm, [], h1.put D (.deferred none), none⟩ none) = _
  rw [evK_unwind, hr, hres]
/-- A range over a function, from the call's answer. -/
theorem rf_normal {ev : Task → Ans} {g : FuncId} {f : Operand} {ps : Array Tmp} {a b : Code} {tm : Tr Value} {h h2 : H} {fv v : Value} {r : ALoop} {ab : Option (List PanicEntry)} (hf : opv tm f = some fv)
    (he : ev (.call fv [.func (.yield (h.next + 1)) #[] #[]] ((h.new (.deferred (some []))).new (.loop { state := .ready, pending := none, fn := g, tmps := tm, params := ps, assign := a, body := b, defers := h.next })) none) = .ret v h2 ab)
    (hl : h2.get (h.next + 1) = some (.loop r)) (hs : r.state = .ready) (hp : r.pending = none) :
    runCode T ev ⟨g, none⟩ (.rangeFunc f ps a b) ⟨tm, [], h, none⟩ = .code .normal ⟨tm, colD h.next, h2.put (h.next + 1) (.loop { r with state := .exhausted }), none⟩ := by
  rw [Sym.run_rangeFunc]
  show rangeFuncK ev ⟨g, none⟩ ps a b ⟨tm, [], h, none⟩ (opv tm f) = _
  rw [hf]
  have hn : (h.new (.deferred (some []))).next = h.next + 1 := new_next _ _
  show rfAfter ev ⟨g, none⟩ ⟨tm, colD h.next, h.new (.deferred (some [])), none⟩ (h.new (.deferred (some []))).next (ev (.call fv [.func (.yield (h.new (.deferred (some []))).next) #[] #[]] ((h.new (.deferred (some []))).new (.loop { state := .ready, pending := none, fn := g, tmps := tm, params := ps, assign := a, body := b, defers := h.next })) none)) = _
  rw [hn, he]
  show rfAfter1 ev ⟨g, none⟩ ⟨tm, colD h.next, h.new (.deferred (some [])), none⟩ (h.next + 1) h2 (h2.get (h.next + 1)) = _
  rw [hl]
  show rfAfter2 ev ⟨g, none⟩ ⟨tm, colD h.next, h.new (.deferred (some [])), none⟩ (h.next + 1) h2 r = _
  unfold rfAfter2
  rw [hs, hp]
theorem rf_ret {g : FuncId} {f : Operand} {ps : Array Tmp} {a b : Code} {tm : Tr Value} {h h2 : H} {fv v : Value} {r : ALoop} {n : Nat} {ab : Option (List PanicEntry)} (hf : opv tm f = some fv)
    (he : evK T C (n + 1) (.call fv [.func (.yield (h.next + 1)) #[] #[]] ((h.new (.deferred (some []))).new (.loop { state := .ready, pending := none, fn := g, tmps := tm, params := ps, assign := a, body := b, defers := h.next })) none) = .ret v h2 ab)
    (hl : h2.get (h.next + 1) = some (.loop r)) (hs : r.state = .done) (hp : r.pending = some .ret) :
    runCode T (evK T C (n + 1)) ⟨g, none⟩ (.rangeFunc f ps a b) ⟨tm, [], h, none⟩ = .code .ret ⟨tm, colD h.next, h2.put (h.next + 1) (.loop { r with state := .exhausted }), none⟩ := by
  rw [Sym.run_rangeFunc]
  show rangeFuncK (evK T C (n + 1)) ⟨g, none⟩ ps a b ⟨tm, [], h, none⟩ (opv tm f) = _
  rw [hf]
  have hn : (h.new (.deferred (some []))).next = h.next + 1 := new_next _ _
  show rfAfter (evK T C (n + 1)) ⟨g, none⟩ ⟨tm, colD h.next, h.new (.deferred (some [])), none⟩ (h.new (.deferred (some []))).next (evK T C (n + 1) (.call fv [.func (.yield (h.new (.deferred (some []))).next) #[] #[]] ((h.new (.deferred (some []))).new (.loop { state := .ready, pending := none, fn := g, tmps := tm, params := ps, assign := a, body := b, defers := h.next })) none)) = _
  rw [hn, he]
  show rfAfter1 (evK T C (n + 1)) ⟨g, none⟩ ⟨tm, colD h.next, h.new (.deferred (some [])), none⟩ (h.next + 1) h2 (h2.get (h.next + 1)) = _
  rw [hl]
  show rfAfter2 (evK T C (n + 1)) ⟨g, none⟩ ⟨tm, colD h.next, h.new (.deferred (some [])), none⟩ (h.next + 1) h2 r = _
  unfold rfAfter2
  rw [hs, hp]
  rfl
end Go.Am
namespace Go.Proofs.YtkdfgoimgcegfaaGreatDoor
open Go Go.Am Go.Proofs Go.Am.Sym Go.Am.Eu
set_option maxRecDepth 10000
theorem TT.f61 : TT.func 61 = some Tryz.f61 := by kernel_rfl
theorem TT.f119 : TT.func 119 = some Tryz.f119 := by kernel_rfl
abbrev clo119 (b : Nat) : Value := .func (.func 119) ⟨[]⟩ ⟨[.pointer (some ⟨b, 0, none⟩)]⟩
theorem run61 {C : Con} (hC : ∀ a h, C 61 a h = none) {t : Term} {h : H} {n : Nat} : evK TT C (n + 2) (call0 61 [tv t] h) = .ret (clo119 h.next) (h.new (.cells (cellsL (tv t)) 26 false)) none := by
  rw [evK_call _ (hC _ _), fn_run (vs := [clo119 h.next]) (h2 := h.new (.cells (cellsL (tv t)) 26 false)) (ab := none) TT.f61 rfl rfl (by simp [Tryz.f61])]
  rfl
@[simp] theorem z39 : zero TT 39 = some (i64 0) := by kernel_rfl
@[simp] theorem z3 : zero TT 3 = some (i64 0) := by kernel_rfl
@[simp] theorem z121 : zero TT 121 = some (.agg ⟨[i64 0, i64 0, i64 0, i64 0]⟩) := by kernel_rfl
@[simp] theorem z168 : zero TT 168 = some .nilFunc := by kernel_rfl
@[simp] theorem build121 (h : H) (a b c d : Int) : buildOf TT h 121 (some (.agg ⟨[i64 0, i64 0, i64 0, i64 0]⟩)) (some [(0, i64 a), (1, i64 b), (2, i64 c), (3, i64 d)]) = .val (scV ⟨a, b, c, d⟩) h := by kernel_rfl
@[simp] theorem store121 (h : H) (b : Nat) (s : Scope) : storeAt TT h 121 (scV s) (.pointer (some ⟨b, 0, none⟩)) = storeIn h b 0 (scC s) (h.get b) := by
  show onB none (storeIn h b 0 (scC s) (h.get b)) (fits (scC s) (Am.size TT 121)) = _
  rw [s121]; rfl
@[simp] theorem storeIn_sc (h : H) (b : Nat) (s : Scope) (v w x y : Value) (e : TypeId) (g : Bool) : storeIn h b 0 (scC s) (some (.cells [v, w, x, y] e g)) = some (h.put b (.cells (scC s) e g)) := rfl
@[simp] theorem cells_func (f : Fn) (a b : Array Value) : cellsL (.func f a b) = [.func f a b] := rfl
@[simp] theorem cells_nilFunc : cellsL .nilFunc = [.nilFunc] := rfl
@[simp] theorem cells_int (k : IntKind) (n : Int) : cellsL (.int k n) = [.int k n] := rfl
theorem s168 : Am.size TT 168 = some 1 := by kernel_rfl
@[simp] theorem store168 (h : H) (b : Nat) (f : FuncId) (l c : List Value) : storeAt TT h 168 (.func (.func f) ⟨l⟩ ⟨c⟩) (.pointer (some ⟨b, 0, none⟩)) = storeIn h b 0 [.func (.func f) ⟨l⟩ ⟨c⟩] (h.get b) := by
  show onB none (storeIn h b 0 [.func (.func f) ⟨l⟩ ⟨c⟩] (h.get b)) (fits [.func (.func f) ⟨l⟩ ⟨c⟩] (Am.size TT 168)) = _
  rw [s168]; rfl
theorem s184 : Am.size TT 184 = some 65 := by kernel_rfl
def zuses : List Value := (useC 20 ++ (useC 20 ++ (useC 20 ++ (useC 20 ++ (useC 20 ++ (useC 20 ++ (useC 20 ++ (useC 20 ++ (useC 20 ++ (useC 20 ++ (useC 20 ++ (useC 20 ++ useC 20))))))))))))
@[simp] theorem z184 : zero TT 184 = some (.agg ⟨zuses⟩) := by kernel_rfl
@[simp] theorem store184 (h : H) (b : Nat) : storeAt TT h 184 usesV (.pointer (some ⟨b, 0, none⟩)) = storeIn h b 0 usesL (h.get b) := by
  show onB none (storeIn h b 0 usesL (h.get b)) (fits usesL (Am.size TT 184)) = _
  rw [s184]; rfl
@[simp] theorem storeIn_uses (h : H) (b : Nat) (e : TypeId) (g : Bool) : storeIn h b 0 usesL (some (.cells zuses e g)) = some (h.put b (.cells usesL e g)) := rfl
/-- Before the walk. -/
structure Ent (s : Scope) (t : Term) (tm0 : Tr Value) (h : H) : Prop where
  base : h.base = 0
  next : h.next = 7
  r : h.get 1 = some (.cells [i64 0] 39 false)
  sc : h.get 2 = some (.cells (scC s) 121 false)
  sz : h.get 3 = some (.cells [i64 (0 : Nat)] 3 false)
  tt : h.get 4 = some (.cells (cellsL (tv t)) 26 false)
  df : h.get 5 = some (.deferred (some []))
  lp : h.get 6 = some (.loop (lp0 tm0 .ready none))
  z : h.get 0 = some (.cells (cellsL (tv t)) 26 false)
theorem run119 {C : Con} {tm0 : Tr Value} {s : Scope} {t : Term} {h : H} {m : Nat} (E : Ent s t tm0 h) (hw : ∀ m, fuelN t ≤ m → Walks (.cells (cellsL (tv t)) 26 false) (evK TT C m) tm0 s 0 0 t) (hm : fuelN t ≤ m) (h120 : ∀ n h, evK TT C n (call0 120 [] h) = .ret usesV h none) :
    ∃ ok h', evK TT C (m + 1) (.call (clo119 4) [yv] h none) = .ret (.tuple ⟨[]⟩) h' none ∧ Out (.cells (cellsL (tv t)) 26 false) tm0 s 0 (nodes t) (ckT s.v s.p s.m s.l 0 t) ok h' := by
  obtain ⟨hb, hn, i1, i2, i3, i4, i5, i6, iz⟩ := E
  have J : VI (.cells (cellsL (tv t)) 26 false) s 0 0 (lp0 tm0 .ready none) (((((h.new (.cells [yv] 181 false)).new (.cells zuses 184 false)).put 8 (.cells usesL 184 false)).new (.cells [.nilFunc] 168 false)).put 9 (.cells [vc] 168 false)) := by
    exact ⟨by simp [hb], by simp [hn], by simp [hn, i1], by simp [hn, i2], by simp [hn, i3], by simp [hn, i5], by simp [hn, i6], by simp [hn], by simp [hn], by simp, by simp [hn, iz]⟩
  obtain ⟨ok, h', e, ho⟩ := hw m hm _ J
  refine ⟨ok, h', ?_, ho⟩
  rw [evK_clo]
  unfold fuelN at hm
  obtain ⟨m, rfl⟩ : ∃ m', m = m' + 1 := ⟨m - 1, by omega⟩
  simp at e
  rw [fn_run (vs := []) (h2 := h') (ab := none) TT.f119 rfl rfl (by simp [Tryz.f119, hn, hb, i4, h120, e])]
  rfl
noncomputable def f22R : Code := piece Tryz.f22 [true,true,true,true]
theorem f22_split : Tryz.f22.body = some (.seq (piece Tryz.f22 [false]) (.seq (piece Tryz.f22 [true,false]) (.seq (piece Tryz.f22 [true,true,false]) (.seq (.seq (piece Tryz.f22 [true,true,true,false,false]) (.block 0 (.rangeFunc (.tmp 26) #[27, 28] f22A f22Y))) f22R)))) := rfl
/-- Before the range. -/
structure Pre22 (s : Scope) (t : Term) (tm : Tr Value) (h : H) : Prop where
  base : h.base = 0
  next : h.next = 5
  c0 : h.get 0 = some (.cells (cellsL (tv t)) 26 false)
  r : h.get 1 = some (.cells [i64 0] 39 false)
  sc : h.get 2 = some (.cells (scC s) 121 false)
  sz : h.get 3 = some (.cells [i64 (0 : Nat)] 3 false)
  tt : h.get 4 = some (.cells (cellsL (tv t)) 26 false)
  ok : TmOk tm
  t26 : tm.get 26 = some (clo119 4)
theorem f22_first {C : Con} {n : Nat} (hC : ∀ a h, C 61 a h = none) {x : ChArg} (hx : x.ok) : EndsAs (fun tm h => Pre22 ⟨x.v, x.p, x.m, x.l⟩ x.t tm h) (fun _ _ => False) (fun _ _ _ => False)
    (runCode TT (evK TT C (n + 2)) ⟨22, none⟩ (.seq (piece Tryz.f22 [false]) (.seq (piece Tryz.f22 [true,false]) (.seq (piece Tryz.f22 [true,true,false]) (piece Tryz.f22 [true,true,true,false,false])))) ⟨initT x.enc 0 .nil, [], H.empty, none⟩) := by
  obtain ⟨t, v, p, m, l⟩ := x
  obtain ⟨ht, hv, hp, hm, hl⟩ := hx
  have h1 : ¬ v < 0 := by have : 0 ≤ v := hv; omega
  have h2 : ¬ p < 0 := by have : 0 ≤ p := hp; omega
  have h3 : ¬ m < 0 := by have : 0 ≤ m := hm; omega
  have h4 : ¬ l < 0 := by have : 0 ≤ l := hl; omega
  have e61 : ∀ t h, evK TT C (n + 2) (call0 61 [tv t] h) = .ret (clo119 h.next) (h.new (.cells (cellsL (tv t)) 26 false)) none := fun t h => run61 hC
  have p0 : EndsAs (fun tm h => h = ((H.empty.new (.cells (cellsL (tv t)) 26 false)).new (.cells [i64 0] 39 false)) ∧ tm.get 1 = some (i64 v) ∧ tm.get 2 = some (i64 p) ∧ tm.get 3 = some (i64 m) ∧ tm.get 4 = some (i64 l) ∧ tm.get 5 = some (.pointer (some ⟨0, 0, none⟩)) ∧ tm.get 10 = some (.pointer (some ⟨1, 0, none⟩))) (fun _ _ => False) (fun _ _ _ => False)
      (runCode TT (evK TT C (n + 2)) ⟨22, none⟩ (piece Tryz.f22 [false]) ⟨initT (ChArg.enc ⟨t, v, p, m, l⟩) 0 .nil, [], H.empty, none⟩) := by
    simp [piece, sel, sub, Tryz.f22, ChArg.enc]
  refine ends_seqC (p0.mono (fun _ _ q => q) (fun _ _ q => q.elim) (fun _ _ _ q => q)) fun tm h q => ?_
  obtain ⟨rfl, t1, t2, t3, t4, t5, t10⟩ := q
  have p1 : EndsAs (fun tm h => h.base = 0 ∧ h.next = 3 ∧ h.get 0 = some (.cells (cellsL (tv t)) 26 false) ∧ h.get 1 = some (.cells [i64 0] 39 false) ∧ h.get 2 = some (.cells (scC ⟨v, p, m, l⟩) 121 false) ∧ tm.get 5 = some (.pointer (some ⟨0, 0, none⟩)) ∧ tm.get 10 = some (.pointer (some ⟨1, 0, none⟩)) ∧ tm.get 11 = some (.pointer (some ⟨2, 0, none⟩))) (fun _ _ => False) (fun _ _ _ => False)
      (runCode TT (evK TT C (n + 2)) ⟨22, none⟩ (piece Tryz.f22 [true,false]) ⟨tm, [], ((H.empty.new (.cells (cellsL (tv t)) 26 false)).new (.cells [i64 0] 39 false)), none⟩) := by
    simp [piece, sel, sub, Tryz.f22, t1, t2, t3, t4, t5, t10, h1, h2, h3, h4]
  refine ends_seqC (p1.mono (fun _ _ q => q) (fun _ _ q => q.elim) (fun _ _ _ q => q)) fun tm h q => ?_
  obtain ⟨hb, hn, c0, c1, c2, t5, t10, t11⟩ := q
  have p2 : EndsAs (fun tm h => h.base = 0 ∧ h.next = 4 ∧ h.get 0 = some (.cells (cellsL (tv t)) 26 false) ∧ h.get 1 = some (.cells [i64 0] 39 false) ∧ h.get 2 = some (.cells (scC ⟨v, p, m, l⟩) 121 false) ∧ h.get 3 = some (.cells [i64 (0 : Nat)] 3 false) ∧ tm.get 5 = some (.pointer (some ⟨0, 0, none⟩)) ∧ tm.get 10 = some (.pointer (some ⟨1, 0, none⟩)) ∧ tm.get 11 = some (.pointer (some ⟨2, 0, none⟩)) ∧ tm.get 12 = some (.pointer (some ⟨3, 0, none⟩))) (fun _ _ => False) (fun _ _ _ => False)
      (runCode TT (evK TT C (n + 2)) ⟨22, none⟩ (piece Tryz.f22 [true,true,false]) ⟨tm, [], h, none⟩) := by
    simp [piece, sel, sub, Tryz.f22, hb, hn, c0, c1, c2, t5, t10, t11]
  refine ends_seqC (p2.mono (fun _ _ q => q) (fun _ _ q => q.elim) (fun _ _ _ q => q)) fun tm h q => ?_
  obtain ⟨hb, hn, c0, c1, c2, c3, t5, t10, t11, t12⟩ := q
  simp [piece, sel, sub, Tryz.f22, hb, hn, c0, t5, e61]
  exact ⟨by simp [hb], by simp [hn], by simp [hn, c0], by simp [hn, c1], by simp [hn, c2], by simp [hn, c3], by simp [hn], ⟨by simp [t5], by simp [t10], by simp [t11], by simp [t12]⟩, by simp⟩
end Go.Proofs.YtkdfgoimgcegfaaGreatDoor
/- Layer 35: the check, exactly, in the program's text: whole. -/
namespace Go.Proofs.YtkdfgoimgcegfaaGreatDoor
open Go Go.Am Go.Proofs Go.Am.Sym Go.Am.Eu
set_option maxRecDepth 10000
/-- How the function ends. -/
def Fin22 (v : Int) (a : Ans) : Prop := ∃ tm h, a = .code .ret ⟨tm, colD 5, h, none⟩ ∧ tm.get 10 = some (.pointer (some ⟨1, 0, none⟩)) ∧ h.base = 0 ∧ h.get 5 = some (.deferred (some [])) ∧ h.get 1 = some (.cells [i64 v] 39 false)
theorem fin22_seq {v : Int} {k : S → Ans} {a : Ans} (h : Fin22 v a) : Fin22 v (seqK k a) := by
  obtain ⟨tm, h1, rfl, q⟩ := h
  exact ⟨tm, h1, rfl, q⟩
/-- The last part. -/
theorem f22_last {C : Con} {n : Nat} {t : Term} {tm : Tr Value} {h : H} (h63 : ∀ n h, evK TT C n (call0 63 [tv t] h) = .ret (i64 (depthN t : Nat)) h none) (ht : TmOk tm) (hb : h.base = 0) (c0 : h.get 0 = some (.cells (cellsL (tv t)) 26 false)) (c1 : h.get 1 = some (.cells [i64 0] 39 false))
    (c3 : h.get 3 = some (.cells [i64 (nodes t : Nat)] 3 false)) (c5 : h.get 5 = some (.deferred (some []))) :
    Fin22 (if 4096 < nodes t then 5 else if 200 < depthN t then 7 else 0) (runCode TT (evK TT C n) ⟨22, none⟩ f22R ⟨tm, colD 5, h, none⟩) := by
  obtain ⟨t5, t10, t11, t12⟩ := ht
  have en : (4096 < (nodes t : Int)) = (4096 < nodes t) := by apply propext; omega
  have ed : (200 < (depthN t : Int)) = (200 < depthN t) := by apply propext; omega
  by_cases h4 : 4096 < nodes t
  · simp [f22R, piece, sel, sub, Tryz.f22, t5, t10, t11, t12, hb, c0, c1, c3, h4, en]
    exact ⟨_, _, rfl, by simp [t10], by simp [hb], by simp [c5], by simp⟩
  · by_cases h2 : 200 < depthN t
    · simp [f22R, piece, sel, sub, Tryz.f22, t5, t10, t11, t12, hb, c0, c1, c3, h4, h2, en, ed, h63]
      exact ⟨_, _, rfl, by simp [t10], by simp [hb], by simp [c5], by simp⟩
    · simp [f22R, piece, sel, sub, Tryz.f22, t5, t10, t11, t12, hb, c0, c1, c3, h4, h2, en, ed, h63]
      exact ⟨_, _, rfl, by simp [t10], by simp [hb], by simp [c5], by simp⟩
theorem reassoc {ev : Task → Ans} {fr : Fr} {a b c d e r : Code} {s : S} : runCode TT ev fr (.seq a (.seq b (.seq c (.seq (.seq d e) r)))) s = seqK (runCode TT ev fr (.seq e r)) (runCode TT ev fr (.seq a (.seq b (.seq c d))) s) := by
  have h1 : ∀ s, runCode TT ev fr (.seq (.seq d e) r) s = seqK (runCode TT ev fr (.seq e r)) (runCode TT ev fr d s) := fun s => by
    rw [Sym.run_seq, Sym.run_seq, seqK_assoc]; rfl
  have up : ∀ (x y z : Code), (∀ s, runCode TT ev fr y s = seqK (runCode TT ev fr (.seq e r)) (runCode TT ev fr z s)) → ∀ s, runCode TT ev fr (.seq x y) s = seqK (runCode TT ev fr (.seq e r)) (runCode TT ev fr (.seq x z) s) := fun x y z h s => by
    rw [Sym.run_seq x y, Sym.run_seq x z, seqK_assoc, show runCode TT ev fr y = fun s => seqK (runCode TT ev fr (.seq e r)) (runCode TT ev fr z s) from funext h]
  exact up a _ _ (up b _ _ (up c _ _ h1)) s
theorem check22 : FnC TT Tryz.prog 22 ChArg.ok ChArg.enc (fun x => i64 x.hE) := by
  obtain ⟨C, hC, hC61, hH62, hH63, hH120⟩ : ∃ C, ConS TT Tryz.prog C ∧ (∀ a h, C 61 a h = none) ∧ Has C 62 (fun y : NoArg => wt y.t < big) (fun y => [scV y.s, tv y.t, i64 (y.d : Nat)]) (fun y => i64 (nodeE y.s.v y.s.p y.s.m y.s.l y.d y.t)) ∧ Has C 63 (fun t => wt t < big) (fun t => [tv t]) (fun t => i64 (depthN t : Nat)) ∧
      Has C 120 (fun _ : Unit => True) (fun _ => []) (fun _ => usesV) :=
    ⟨_, addC_sound (addC_sound (addC_sound noC_sound node62) depth63) uses120, fun _ _ => rfl,
      .skip (by decide) (.skip (by decide) (.add fun x y e => by
        obtain ⟨x1, x2, x3⟩ := x; obtain ⟨y1, y2, y3⟩ := y
        simp at e
        obtain ⟨e1, e2, e3⟩ := e
        have : x3 = y3 := by omega
        rw [scV_inj e1, tv_inj e2, this])),
      .skip (by decide) (.add fun x y e => by simp at e; rw [tv_inj e]),
      .add fun x y e => rfl⟩
  rintro x hx
  have hx' := hx
  obtain ⟨ht, hv, hp, hm, hl⟩ := hx'
  have hnb := nodes_le x.t
  have e62 : ∀ y d n h, wt y < big → evK TT C n (call0 62 [scV ⟨x.v, x.p, x.m, x.l⟩, tv y, i64 (d : Nat)] h) = .ret (i64 (nodeE x.v x.p x.m x.l d y)) h none := fun y d n h hy => hH62.ev (T := TT) n (x := ⟨⟨x.v, x.p, x.m, x.l⟩, y, d⟩) hy h
  have e63 := fun n h => hH63.ev (T := TT) n (x := x.t) ht h
  have e120 := fun n h => hH120.ev (T := TT) n (x := ()) trivial h
  have key : ∀ m, fuelN x.t ≤ m → Fin22 x.hE (runCode TT (evK TT C (m + 2)) ⟨22, none⟩ (.seq (piece Tryz.f22 [false]) (.seq (piece Tryz.f22 [true,false]) (.seq (piece Tryz.f22 [true,true,false]) (.seq (.seq (piece Tryz.f22 [true,true,true,false,false]) (.block 0 (.rangeFunc (.tmp 26) #[27, 28] f22A f22Y))) f22R)))) ⟨initT x.enc 0 .nil, [], H.empty, none⟩) := by
    intro m hfm
    rw [reassoc]
    rcases (f22_first (n := m) hC61 hx).cases with ⟨tm, h, e, hb, hn, c0, c1, c2, c3, c4, hok, t26⟩ | ⟨_, _, _, q⟩ | ⟨_, _, _, _, q⟩
    · rw [e, Sym.seqK_normal, Sym.run_seq, Sym.run_block]
      have E : Ent ⟨x.v, x.p, x.m, x.l⟩ x.t tm ((h.new (.deferred (some []))).new (.loop (lp0 tm .ready none))) :=
        ⟨by simp [hb], by simp [hn], by simp [hn, c1], by simp [hn, c2], by simp [hn, c3], by simp [hn, c4], by simp [hn], by simp [hn], by simp [hn, c0]⟩
      obtain ⟨ok, h', e2, ho⟩ := run119 (C := C) (m := m + 1) E (fun m' hm' => walk121 hok (W := big) e62 _ x.t (Nat.le_refl _) ht 0 0 m' (by omega) (by omega) hm') (by omega) e120
      have hop : opv tm (.tmp 26) = some (clo119 4) := t26
      have e3 : evK TT C (m + 2) (.call (clo119 4) [.func (.yield (h.next + 1)) #[] #[]] ((h.new (.deferred (some []))).new (.loop { state := .ready, pending := none, fn := 22, tmps := tm, params := #[27, 28], assign := f22A, body := f22Y, defers := h.next })) none) = .ret (.tuple ⟨[]⟩) h' none := by
        rw [hn]; exact e2
      rcases ho with ⟨c, rfl, J⟩ | ⟨c, rfl, n', J⟩
      · rw [rf_normal hop e3 (r := lp0 tm .ready none) (by rw [hn]; exact J.lp) rfl rfl, Sym.blockK_normal, Sym.seqK_normal, hn]
        have hE : x.hE = if 4096 < nodes x.t then 5 else if 200 < depthN x.t then 7 else 0 := by
          rw [ChArg.hE_of, if_neg (fun k => k c)]
        rw [hE]
        have K := J.putLp { lp0 tm .ready none with state := .exhausted }
        have hsz := K.sz
        rw [Nat.zero_add] at hsz
        exact f22_last e63 hok K.base K.z K.r hsz K.df
      · rw [rf_ret hop e3 (r := lp0 tm .done (some .ret)) (by rw [hn]; exact J.lp) rfl rfl, Sym.blockK_ret, hn]
        have hE : x.hE = ckT x.v x.p x.m x.l 0 x.t := by
          rw [ChArg.hE_of]; exact if_pos c
        rw [hE]
        have K := J.putLp { lp0 tm .done (some .ret) with state := .exhausted }
        exact fin22_seq ⟨tm, _, rfl, hok.t10, K.base, K.df, K.r⟩
    · cases q
    · cases q
  intro h
  obtain ⟨tm, h1, e, t10, hb, c5, c1⟩ := key (fuelN x.t) (Nat.le_refl _)
  refine fnC_of (v := i64 x.hE) (d := i64 x.hE) (h1 := h1.put 5 (.deferred none)) tok C hC (.cons (tv_pure x.t) (.cons (.ground rfl) (.cons (.ground rfl) (.cons (.ground rfl) (.cons (.ground rfl) .nil))))) (fuelN x.t + 2) ?_ (.pure (.ground rfl)) h
  exact fn_run_rf (D := 5) (vs := [i64 x.hE]) (rs := [.cell 10 39]) TT.f22 f22_split rfl e c5 (by simp [t10, c1, hb])
end Go.Proofs.YtkdfgoimgcegfaaGreatDoor
