/- Layer 35: valid levels, exactly (the document's text). -/
import Derived.Test.YtkdfgoimgcegfaaGreatDoorE35c
set_option linter.unusedSectionVars false
set_option linter.unusedSimpArgs false
set_option linter.unusedVariables false
namespace Go.Proofs.YtkdfgoimgcegfaaGreatDoor
open Go Go.Am Go.Proofs Go.Am.Sym Go.Am.Eu
set_option maxRecDepth 10000
theorem TT.f74 : TT.func 74 = some Tryz.f74 := by kernel_rfl
noncomputable def f74B : Code := piece Tryz.f74 [true,true,false,true,false,false]
theorem f74_split : Tryz.f74.body = some (.seq (piece Tryz.f74 [false]) (.seq (piece Tryz.f74 [true,false]) (.seq (.seq (piece Tryz.f74 [true,true,false,false]) (.block 0 (.loop f74B))) (piece Tryz.f74 [true,true,true])))) := rfl
/-- Where such a loop stands: a level in the first cell. -/
structure LvSt (x : Lvl) (c : Nat) (i : Nat) (tm : Tr Value) (h : H) : Prop where
  base : h.base = 0
  next : 0 < h.next
  cell : h.get 0 = some (.cells (cellsL (lvlV x)) 86 false)
  t1 : tm.get 1 = some (.pointer (some ⟨0, 0, none⟩))
  tc : tm.get c = some (i64 i)
theorem wrap_pred {i : Nat} (hp : 0 < i) (hb : i ≤ big) : IntKind.i64.wrap ((i : Int) - 1) = (i - 1 : Nat) := by
  rw [← wrapN (n := i - 1) (by omega)]; congr 1; omega
section
variable {ev : Task → Ans} {x : Lvl} {i : Nat} {tm : Tr Value} {h : H}
theorem f74_iter (st : LvSt x 3 i tm h) (hi : i < x.vars.length) (hw1 : i + 1 ≤ big) :
    EndsAs (fun tm' h' => varP x i hi ∧ LvSt x 3 (i + 1) tm' h') (fun tm' _ => tm'.get 2 = some (.bool false) ∧ ¬ varP x i hi) (fun _ _ _ => False)
      (runCode TT ev ⟨74, none⟩ f74B ⟨tm, [], h, none⟩) := by
  obtain ⟨hb, hn, h0, t1, t3⟩ := st
  have e2 := wrapN hw1
  simp at e2
  have hne : h.next ≠ 0 := by omega
  have key := fun k => wrap_pred (i := i) k (by omega)
  have hlt : i - 1 < x.vars.length := by omega
  have fin : ∀ tm' h', h'.base = 0 → 0 < h'.next → h'.get 0 = some (.cells (cellsL (lvlV x)) 86 false) → tm'.get 1 = some (.pointer (some ⟨0, 0, none⟩)) → tm'.get 3 = some (i64 ((i : Int) + 1)) → LvSt x 3 (i + 1) tm' h' := fun tm' h' a b c d e => ⟨a, b, c, d, e⟩
  by_cases hpos : 0 < i
  all_goals
    by_cases c1 : x.vars[i].index < -65536
    · simp +contextual [f74B, piece, sel, sub, Tryz.f74, t1, t3, h0, hb, hn, hne, hne.symm, hi, e2, condK_if, c1]
      intro hv; unfold varP at hv; omega
    by_cases c2 : 8 ≤ x.vars[i].index
    · simp +contextual [f74B, piece, sel, sub, Tryz.f74, t1, t3, h0, hb, hn, hne, hne.symm, hi, e2, condK_if, c1, c2]
      intro hv; unfold varP at hv; omega
    by_cases c3 : x.vars[i].plus < 0
    · simp +contextual [f74B, piece, sel, sub, Tryz.f74, t1, t3, h0, hb, hn, hne, hne.symm, hi, e2, condK_if, c1, c2, c3]
      intro hv; unfold varP at hv; omega
    by_cases c4 : 100 < x.vars[i].plus
    · simp +contextual [f74B, piece, sel, sub, Tryz.f74, t1, t3, h0, hb, hn, hne, hne.symm, hi, e2, condK_if, c1, c2, c3, c4]
      intro hv; unfold varP at hv; omega
    first
      | (have key := key hpos
         by_cases c5 : x.vars[i].index ≤ x.vars[i - 1].index
         · simp +contextual [f74B, piece, sel, sub, Tryz.f74, t1, t3, h0, hb, hn, hne, hne.symm, hi, e2, condK_if, c1, c2, c3, c4, c5, hpos, key, hlt]
           intro hv; unfold varP at hv; omega)
      | skip
    by_cases c6 : 0 < x.const
    · by_cases c7 : x.const ≤ x.vars[i].plus
      · simp +contextual [f74B, piece, sel, sub, Tryz.f74, t1, t3, h0, hb, hn, hne, hne.symm, hi, e2, condK_if, c1, c2, c3, c4, hpos, key, hlt, c6, c7, *]
        intro hv; unfold varP at hv; omega
      · simp +contextual [f74B, piece, sel, sub, Tryz.f74, t1, t3, h0, hb, hn, hne, hne.symm, hi, e2, condK_if, c1, c2, c3, c4, hpos, key, hlt, c6, c7, *]
        unfold varP; omega
    · simp +contextual [f74B, piece, sel, sub, Tryz.f74, t1, t3, h0, hb, hn, hne, hne.symm, hi, e2, condK_if, c1, c2, c3, c4, hpos, key, hlt, c6, *]
      unfold varP; omega
theorem f74_end (st : LvSt x 3 i tm h) (hi : x.vars.length ≤ i) :
    EndsAs (fun _ _ => False) (fun _ _ => False) (fun j _ _ => j = 0) (runCode TT ev ⟨74, none⟩ f74B ⟨tm, [], h, none⟩) := by
  obtain ⟨hb, hn, h0, t1, t3⟩ := st
  have hi' : ¬ i < x.vars.length := by omega
  have hne : h.next ≠ 0 := by omega
  simp +contextual [f74B, piece, sel, sub, Tryz.f74, t1, t3, h0, hb, hn, hne, hne.symm, hi', condK_if]
end
theorem validB_false {x : Lvl} (h : ¬ validP x) : validB x = false := by simp [validB, h]
theorem validB_true {x : Lvl} (h : validP x) : validB x = true := by simp [validB, h]
theorem valid74 : FnC TT Tryz.prog 74 (fun x => x.vars.length < big) (fun x => [lvlV x]) (fun x => .bool (validB x)) := by
  refine fun x hx => fnX_ends (v := .bool (validB x)) tok noC noC_sound (.cons (lvlV_pure x) .nil) (.ground rfl) (x.vars.length + 1) TT.f74 f74_split rfl ?_
  have p0 : EndsAs (fun tm h => h = H.empty.new (.cells (cellsL (lvlV x)) 86 false) ∧ tm.get 1 = some (.pointer (some ⟨0, 0, none⟩))) (fun _ _ => False) (fun _ _ _ => False) (runCode TT (evK TT noC (x.vars.length + 1 + 1)) ⟨74, none⟩ (piece Tryz.f74 [false]) ⟨initT [lvlV x] 0 .nil, [], H.empty, none⟩) := by
    simp [piece, sel, sub, Tryz.f74]
  have p1 : ∀ tm h, (h = H.empty.new (.cells (cellsL (lvlV x)) 86 false) ∧ tm.get 1 = some (.pointer (some ⟨0, 0, none⟩))) → EndsAs (fun tm h => (0 ≤ x.const ∧ x.const ≤ 100) ∧ h = H.empty.new (.cells (cellsL (lvlV x)) 86 false) ∧ tm.get 1 = some (.pointer (some ⟨0, 0, none⟩))) (fun tm _ => tm.get 2 = some (.bool (validB x))) (fun _ _ _ => False)
      (runCode TT (evK TT noC (x.vars.length + 1 + 1)) ⟨74, none⟩ (piece Tryz.f74 [true,false]) ⟨tm, [], h, none⟩) := by
    rintro tm h ⟨rfl, t1⟩
    by_cases c1 : x.const < 0
    · rw [validB_false fun hv => by have := hv.1; omega]
      simp [piece, sel, sub, Tryz.f74, t1, c1, condK_if]
    · by_cases c2 : 100 < x.const
      · rw [validB_false fun hv => by have := hv.1; omega]
        simp [piece, sel, sub, Tryz.f74, t1, c1, c2, condK_if]
      · have k0 : 0 ≤ x.const := by omega
        have k1 : x.const ≤ 100 := by omega
        simp [piece, sel, sub, Tryz.f74, t1, c1, c2, condK_if, k0, k1]
  have p2 : ∀ tm h, ((0 ≤ x.const ∧ x.const ≤ 100) ∧ h = H.empty.new (.cells (cellsL (lvlV x)) 86 false) ∧ tm.get 1 = some (.pointer (some ⟨0, 0, none⟩))) → EndsAs (fun tm h => (0 ≤ x.const ∧ x.const ≤ 100) ∧ LvSt x 3 0 tm h) (fun _ _ => False) (fun _ _ _ => False)
      (runCode TT (evK TT noC (x.vars.length + 1 + 1)) ⟨74, none⟩ (piece Tryz.f74 [true,true,false,false]) ⟨tm, [], h, none⟩) := by
    rintro tm h ⟨hc, rfl, t1⟩
    simp [piece, sel, sub, Tryz.f74, t1, hc]
    exact ⟨by simp, by simp, by simp, by simp [t1], by simp⟩
  refine ends_seqC (p0.mono (fun _ _ q => q) (fun _ _ q => q.elim) (fun _ _ _ q => q)) fun tm h q => ends_seqC (p1 tm h q) fun tm h q =>
    ends_seqC (N' := fun tm h => validP x) (ends_seqC ((p2 tm h q).mono (fun _ _ q => q) (fun _ _ q => q.elim) (fun _ _ _ q => q)) fun tm h q => ?_) fun tm h q => ?_
  · obtain ⟨hc, st⟩ := q
    refine ends_loop 0 (fun j tm h => ∃ i, j = x.vars.length - i ∧ i ≤ x.vars.length ∧ LvSt x 3 i tm h ∧ ∀ k hk, k < i → varP x k hk) x.vars.length ⟨0, rfl, by omega, st, fun k _ hk => by omega⟩ (by omega) ?_
    rintro j tm h m ⟨i, rfl, hi, st, hall⟩ -
    by_cases hlt : i < x.vars.length
    · refine (f74_iter st hlt (by omega)).mono (fun tm' h' q => ⟨_, by omega, i + 1, rfl, hlt, q.2, fun k hk hki => ?_⟩) (fun tm' _ q => ?_) (fun _ _ _ q => q.elim)
      · by_cases e : k = i
        · subst e; exact q.1
        · exact hall k hk (by omega)
      · rw [q.1, validB_false fun hv => q.2 (hv.2 i hlt)]
    · exact (f74_end st (by omega)).mono (fun _ _ q => q.elim) (fun _ _ q => q.elim) (fun _ _ _ q => ⟨q, hc, fun k hk => hall k hk (by omega)⟩)
  · rw [validB_true q]
    simp [piece, sel, sub, Tryz.f74]
end Go.Proofs.YtkdfgoimgcegfaaGreatDoor
/- Layer 35: valid levels, exactly (the program's text). -/
namespace Go.Am
open Go
variable {T : Tab} {P : Program} {C : Con}

@[simp] theorem Sym.funcOf_some (h : H) (f : FuncId) (a b : List Value) : funcOf h (.func f) (some a) (some b) = .val (.func (.func f) ⟨a⟩ ⟨b⟩) h := rfl
theorem evK_clo (n : Nat) {g : FuncId} {args : List Value} {c : Value} {l : List Value} {h : H} : evK T C (n + 1) (.call (.func (.func g) ⟨[]⟩ ⟨c :: l⟩) args h none) = callFn T (evK T C n) g (args ++ c :: l) h none (T.func g) := by
  have := evalC_none (T := T) (C := taskOf C) (t := .call (.func (.func g) ⟨[]⟩ ⟨c :: l⟩) args h none) rfl n
  rw [show evK T C (n + 1) (.call (.func (.func g) ⟨[]⟩ ⟨c :: l⟩) args h none) = _ from this]
  show callFn T (evK T C n) g ([] ++ args ++ c :: l) h none (T.func g) = _
  rw [List.nil_append]
/-- Memory that was there is as it was. -/
def Keep (h0 h : H) : Prop := h.base = 0 ∧ h0.next ≤ h.next ∧ ∀ b, b < h0.next → h.get b = h0.get b
theorem Keep.refl {h : H} (hb : h.base = 0) : Keep h h := ⟨hb, Nat.le_refl _, fun _ _ => rfl⟩
theorem Keep.trans {h0 h1 h2 : H} (a : Keep h0 h1) (b : Keep h1 h2) : Keep h0 h2 := ⟨b.1, Nat.le_trans a.2.1 b.2.1, fun j hj => by rw [b.2.2 j (by have := a.2.1; omega), a.2.2 j hj]⟩
theorem Keep.new {h0 h : H} (a : Keep h0 h) (o : AObj) : Keep h0 (h.new o) := ⟨by simp [a.1], by have := a.2.1; simp; omega, fun j hj => by
  have := a.2.1
  have q : ¬ j = h.next := by omega
  simp [q, a.2.2 j hj]⟩
theorem Keep.get {h0 h : H} (a : Keep h0 h) {b : Nat} {o : AObj} (hb : b < h0.next) (hg : h0.get b = some o) : h.get b = some o := by rw [a.2.2 b hb, hg]
end Go.Am
namespace Go.Proofs.YtkdfgoimgcegfaaGreatDoor
open Go Go.Am Go.Proofs Go.Am.Sym Go.Am.Eu
set_option maxRecDepth 10000
theorem TT.f171 : TT.func 171 = some Tryz.f171 := by kernel_rfl
theorem TT.f231 : TT.func 231 = some Tryz.f231 := by kernel_rfl
theorem TT.f298 : TT.func 298 = some Tryz.f298 := by kernel_rfl
theorem TT.f158 : TT.func 158 = some Tryz.f158 := by kernel_rfl
theorem TT.f212 : TT.func 212 = some Tryz.f212 := by kernel_rfl
abbrev clo298 (b : Nat) : Value := .func (.func 298) ⟨[]⟩ ⟨[.pointer (some ⟨b, 0, none⟩)]⟩
theorem run298 {C : Con} {n b : Nat} {h : H} {x : Lvl} {v : LVar} (hb : h.base = 0) (hbn : b < h.next) (hg : h.get b = some (.cells (cellsL (lvlV x)) 86 false)) :
    evK TT C (n + 2) (.call (clo298 b) [lvarV v] h none) = .ret (.bool (decide (x.const ≤ v.plus))) (h.new (.cells (cellsL (lvarV v)) 191 false)) none := by
  have q : ¬ b = h.next := by omega
  rw [evK_clo, fn_run (vs := [.bool (decide (x.const ≤ v.plus))]) (h2 := h.new (.cells (cellsL (lvarV v)) 191 false)) (ab := none) TT.f298 rfl rfl (by
    simp [Tryz.f298, hb, hg, q])]
  rfl
noncomputable def f212B : Code := piece Tryz.f212 [true,false,true,false,false]
theorem f212_split : Tryz.f212.body = some (.seq (piece Tryz.f212 [false]) (.seq (.seq (piece Tryz.f212 [true,false,false]) (.block 0 (.loop f212B))) (piece Tryz.f212 [true,true]))) := rfl
structure IxSt (l : List LVar) (f : Value) (i : Nat) (h0 : H) (tm : Tr Value) (h : H) : Prop where
  keep : Keep h0 h
  t0 : tm.get 0 = some (lvarsV l)
  t1 : tm.get 1 = some f
  t7 : tm.get 7 = some (i64 (l.length : Nat))
  t8 : tm.get 8 = some (i64 i)
section
variable {ev : Task → Ans} {l : List LVar} {x : Lvl} {b i : Nat} {tm : Tr Value} {h h0 : H}
theorem f212_iter (st : IxSt l (clo298 b) i h0 tm h) (hbn : b < h0.next) (hg : h0.get b = some (.cells (cellsL (lvlV x)) 86 false)) (hi : i < l.length) (hw1 : i + 1 ≤ big)
    (hev : ∀ (v : LVar) (h : H), h.base = 0 → b < h.next → h.get b = some (.cells (cellsL (lvlV x)) 86 false) → ev (.call (clo298 b) [lvarV v] h none) = .ret (.bool (decide (x.const ≤ v.plus))) (h.new (.cells (cellsL (lvarV v)) 191 false)) none) :
    EndsAs (fun tm' h' => ¬ x.const ≤ l[i].plus ∧ IxSt l (clo298 b) (i + 1) h0 tm' h') (fun tm' h' => x.const ≤ l[i].plus ∧ Keep h0 h' ∧ tm'.get 4 = some (i64 i)) (fun _ _ _ => False)
      (runCode TT ev ⟨212, none⟩ f212B ⟨tm, [], h, none⟩) := by
  obtain ⟨hk, t0, t1, t7, t8⟩ := st
  have e2 := wrapN hw1
  simp at e2
  have he := hev l[i] h hk.1 (by have := hk.2.1; omega) (hk.get hbn hg)
  have hk' : Keep h0 (h.new (.cells (cellsL (lvarV l[i])) 191 false)) := hk.new _
  have fin : ∀ tm' h', Keep h0 h' → tm'.get 0 = some (lvarsV l) → tm'.get 1 = some (clo298 b) → tm'.get 7 = some (i64 (l.length : Nat)) → tm'.get 8 = some (i64 ((i : Int) + 1)) → IxSt l (clo298 b) (i + 1) h0 tm' h' := fun tm' h' a b c d e => ⟨a, b, c, d, e⟩
  by_cases c : x.const ≤ l[i].plus
  · simp [f212B, piece, sel, sub, Tryz.f212, t0, t1, t7, t8, hi, e2, he, c, hk']
  · simp [f212B, piece, sel, sub, Tryz.f212, t0, t1, t7, t8, hi, e2, he, c, hk']
    exact fin _ _ hk' (by simp [t0]) (by simp [t1]) (by simp [t7]) (by simp)
theorem f212_end {f : Value} (st : IxSt l f i h0 tm h) (hi : l.length ≤ i) :
    EndsAs (fun _ _ => False) (fun _ _ => False) (fun j _ h' => j = 0 ∧ Keep h0 h') (runCode TT ev ⟨212, none⟩ f212B ⟨tm, [], h, none⟩) := by
  obtain ⟨hk, t0, t1, t7, t8⟩ := st
  have hi' : ¬ i < l.length := by omega
  simp [f212B, piece, sel, sub, Tryz.f212, t0, t1, t7, t8, hi', hk]
end
theorem run212 {C : Con} (hC : C 212 = fun _ _ => none) {l : List LVar} {x : Lvl} {b m : Nat} {h0 : H} (hb : h0.base = 0) (hbn : b < h0.next) (hg : h0.get b = some (.cells (cellsL (lvlV x)) 86 false)) (hl : l.length < big) (hm : l.length + 3 ≤ m) :
    ∃ k h', evK TT C (m + 1) (call0 212 [lvarsV l, clo298 b] h0) = .ret (i64 k) h' none ∧ Keep h0 h' ∧ (0 ≤ k ↔ ∃ v ∈ l, x.const ≤ v.plus) := by
  have key : EndsAs (fun _ _ => False) (fun tm h' => ∃ k, tm.get 4 = some (i64 k) ∧ Keep h0 h' ∧ (0 ≤ k ↔ ∃ v ∈ l, x.const ≤ v.plus)) (fun _ _ _ => False)
      (runCode TT (evK TT C m) ⟨212, none⟩ (.seq (piece Tryz.f212 [false]) (.seq (.seq (piece Tryz.f212 [true,false,false]) (.block 0 (.loop f212B))) (piece Tryz.f212 [true,true]))) ⟨initT [lvarsV l, clo298 b] 0 .nil, [], h0, none⟩) := by
    have p0 : EndsAs (fun tm h => h = h0 ∧ tm.get 0 = some (lvarsV l) ∧ tm.get 1 = some (clo298 b)) (fun _ _ => False) (fun _ _ _ => False) (runCode TT (evK TT C m) ⟨212, none⟩ (piece Tryz.f212 [false]) ⟨initT [lvarsV l, clo298 b] 0 .nil, [], h0, none⟩) := by
      simp [piece, sel, sub, Tryz.f212]
    have p1 : ∀ tm h, (h = h0 ∧ tm.get 0 = some (lvarsV l) ∧ tm.get 1 = some (clo298 b)) → EndsAs (fun tm h => IxSt l (clo298 b) 0 h0 tm h) (fun _ _ => False) (fun _ _ _ => False) (runCode TT (evK TT C m) ⟨212, none⟩ (piece Tryz.f212 [true,false,false]) ⟨tm, [], h, none⟩) := by
      rintro tm h ⟨rfl, t0, t1⟩
      simp [piece, sel, sub, Tryz.f212, t0, t1]
      exact ⟨.refl hb, by simp [t0], by simp [t1], by simp, by simp⟩
    refine ends_seqC (p0.mono (fun _ _ q => q) (fun _ _ q => q.elim) (fun _ _ _ q => q)) fun tm h q => ends_seqC (N' := fun _ h => Keep h0 h ∧ ¬ ∃ v ∈ l, x.const ≤ v.plus) (ends_seqC ((p1 tm h q).mono (fun _ _ q => q) (fun _ _ q => q.elim) (fun _ _ _ q => q)) fun tm h st => ?_) fun tm h q => ?_
    · refine ends_loop 3 (fun j tm h => ∃ i, j = l.length - i ∧ i ≤ l.length ∧ IxSt l (clo298 b) i h0 tm h ∧ ∀ k (hk : k < l.length), k < i → ¬ x.const ≤ l[k].plus) l.length ⟨0, rfl, by omega, st, fun k _ hk => by omega⟩ (by omega) ?_
      rintro j tm h m ⟨i, rfl, hi, st, hall⟩ hm3
      by_cases hlt : i < l.length
      · obtain ⟨m, rfl⟩ : ∃ m', m = m' + 2 := ⟨m - 2, by omega⟩
        refine (f212_iter st hbn hg hlt (by omega) (fun v h h1 h2 h3 => run298 h1 h2 h3)).mono (fun tm' h' q => ⟨_, by omega, i + 1, rfl, hlt, q.2, fun k hk hki => ?_⟩) (fun tm' h' q => ?_) (fun _ _ _ q => q.elim)
        · by_cases e : k = i
          · subst e; exact q.1
          · exact hall k hk (by omega)
        · exact ⟨i, q.2.2, q.2.1, ⟨fun _ => ⟨l[i], List.getElem_mem hlt, q.1⟩, fun _ => by omega⟩⟩
      · refine (f212_end st (by omega)).mono (fun _ _ q => q.elim) (fun _ _ q => q.elim) (fun _ _ _ q => ⟨q.1, q.2, ?_⟩)
        rintro ⟨v, hv, hc⟩
        obtain ⟨k, hk, rfl⟩ := List.mem_iff_getElem.1 hv
        exact hall k hk (by omega) hc
    · obtain ⟨hk, hn⟩ := q
      simp [piece, sel, sub, Tryz.f212]
      exact ⟨hk, fun v hv => by
        have : ¬ x.const ≤ v.plus := fun hc => hn ⟨v, hv, hc⟩
        omega⟩
  rcases key.cases with ⟨_, _, _, q⟩ | ⟨tm, h', e, k, t4, hk, hiff⟩ | ⟨_, _, _, _, q⟩
  · cases q
  · refine ⟨k, h', ?_, hk, hiff⟩
    obtain ⟨m, rfl⟩ : ∃ m', m = m' + 1 := ⟨m - 1, by omega⟩
    rw [evK_call _ (by rw [hC]), fn_run (vs := [i64 k]) (h2 := h') (ab := none) TT.f212 f212_split rfl (by rw [e]; simp [t4])]
    rfl
  · cases q
open Classical in
noncomputable def coversB (x : Lvl) : Bool := decide (∃ v ∈ x.vars, x.const ≤ v.plus)
theorem run158 {C : Con} (hC : C 212 = fun _ _ => none) (hC' : C 158 = fun _ _ => none) {x : Lvl} {b m : Nat} {h0 : H} (hb : h0.base = 0) (hbn : b < h0.next) (hg : h0.get b = some (.cells (cellsL (lvlV x)) 86 false)) (hl : x.vars.length < big) (hm : x.vars.length + 4 ≤ m) :
    ∃ h', evK TT C (m + 1) (call0 158 [lvarsV x.vars, clo298 b] h0) = .ret (.bool (coversB x)) h' none ∧ Keep h0 h' := by
  obtain ⟨m, rfl⟩ : ∃ m', m = m' + 1 := ⟨m - 1, by omega⟩
  obtain ⟨k, h', e, hk, hiff⟩ := run212 hC hb hbn hg hl (m := m) (by omega)
  have hd : coversB x = decide (0 ≤ k) := by rw [Bool.eq_iff_iff]; simp [coversB, hiff]
  refine ⟨h', ?_, hk⟩
  rw [evK_call _ (by rw [hC']), fn_run (vs := [.bool (coversB x)]) (h2 := h') (ab := none) TT.f158 rfl rfl (by simp [Tryz.f158, e, hd])]
  rfl
theorem covered231 : FnC TT Tryz.prog 231 (fun x => x.vars.length < big) (fun x => [lvlV x]) (fun x => .bool (coversB x)) := by
  refine fun x hx => fnX_ends (v := .bool (coversB x)) tok noC noC_sound (.cons (lvlV_pure x) .nil) (.ground rfl) (x.vars.length + 5) TT.f231 rfl rfl ?_
  obtain ⟨h', e, hk⟩ := run158 (C := noC) rfl rfl (x := x) (b := 0) (m := x.vars.length + 5) (h0 := H.empty.new (.cells (cellsL (lvlV x)) 86 false)) (by simp) (by simp) (by simp) hx (by omega)
  simp [Tryz.f231, e]
end Go.Proofs.YtkdfgoimgcegfaaGreatDoor
