/- Layer 35: the metavariables of a level: they are answered. -/
import Derived.Test.YtkdfgoimgcegfaaGreatDoorG35f
import Derived.Test.YtkdfgoimgcegfaaGreatDoorE35d
import Derived.Test.YtkdfgoimgcegfaaGreatDoorQ35
set_option linter.unusedSectionVars false
set_option linter.unusedSimpArgs false
set_option linter.unusedVariables false
namespace Go.Proofs.YtkdfgoimgcegfaaGreatDoor
open Go Go.Am Go.Proofs Go.Am.Sym Go.Am.Eu
set_option maxRecDepth 10000
theorem TT.f76 : TT.func 76 = some Tryz.f76 := by kernel_rfl
noncomputable def f76B : Code := piece Tryz.f76 [true,true,true,false,true,false,false]
theorem f76_split : Tryz.f76.body = some (.seq (piece Tryz.f76 [false]) (.seq (piece Tryz.f76 [true,false]) (.seq (piece Tryz.f76 [true,true,false]) (.seq (.seq (piece Tryz.f76 [true,true,true,false,false]) (.block 0 (.loop f76B))) (piece Tryz.f76 [true,true,true,true]))))) := rfl
structure MtSt (x : Lvl) (j : Int) (L : List Int) (tm : Tr Value) (h : H) : Prop where
  base : h.base = 0
  next : 0 < h.next
  c0 : h.get 0 = some (.cells (cellsL (lvlV x)) 86 false)
  t1 : tm.get 1 = some (.pointer (some ⟨0, 0, none⟩))
  t3 : ∃ v, tm.get 3 = some v ∧ IntA v h L ∧ blkOf v ≠ some 0
  t4 : tm.get 4 = some (i64 j)
theorem wrap_less {i : Nat} (h : i ≤ big) : IntKind.i64.wrap ((i : Int) - 1) = i - 1 := by
  cases i with
  | zero => rfl
  | succ i =>
    have := wrapN (n := i) (by omega)
    rw [show ((i + 1 : Nat) : Int) - 1 = (i : Int) by omega, this]
section
variable {ev : Task → Ans} {x : Lvl} {L : List Int} {tm : Tr Value} {h : H}
theorem f76_iter {i : Nat} (st : MtSt x i L tm h) (hi : i < x.vars.length) (hw1 : i + 1 ≤ big) (hL : L.length + 1 ≤ 1073741824) :
    EndsAs (fun tm' h' => ∃ L', L'.length ≤ L.length + 1 ∧ MtSt x ((i : Int) - 1) L' tm' h') (fun _ _ => False) (fun _ _ _ => False)
      (runCode TT ev ⟨76, none⟩ f76B ⟨tm, [], h, none⟩) := by
  obtain ⟨hb, hn, c0, t1, ⟨v, t3, hv, hv0⟩, t4⟩ := st
  have e2 := wrap_less (i := i) (by omega)
  by_cases c : x.vars[i].index < 0
  · obtain ⟨v', h', e, hv', hk, hy⟩ := (hv.keep (h' := h.new (.cells [i64 (IntKind.i64.wrap (-1 - x.vars[i].index))] 3 false)) (by simp) (fun j hj => by
      have := hv.blk hj
      have q : ¬ j = h.next := by omega
      simp [q])).append (B := h.next) (x := IntKind.i64.wrap (-1 - x.vars[i].index)) (e := 3) (g := false) (by simp [hb]) hL (by simp)
    obtain ⟨k1, k2, k3⟩ := hk
    have g0 : h'.get 0 = some (.cells (cellsL (lvlV x)) 86 false) := by
      have q : ¬ 0 = h.next := by omega
      rw [k3 0 (by simp) hv0]; simp [q, c0]
    have hn' : 0 < h'.next := by simp at k2; omega
    have hv0' : blkOf v' ≠ some 0 := fun q => by
      rcases hy 0 q with q | q
      · exact hv0 q
      · simp at q
    have hl : lenOf (.slice (some ⟨h.next, 0, none⟩) 1 1) = some 1 := rfl
    simp [f76B, piece, sel, sub, Tryz.f76, hb, c0, t1, t3, t4, hi, e2, c, hl, e, condK_if]
    exact ⟨L ++ [_], by simp, k1, hn', g0, by simp [t1], ⟨v', by simp, hv', hv0'⟩, by simp⟩
  · simp [f76B, piece, sel, sub, Tryz.f76, hb, c0, t1, t3, t4, hi, e2, c, condK_if]
    exact ⟨L, by simp, hb, hn, c0, by simp [t1], ⟨v, by simp [t3], hv, hv0⟩, by simp⟩
theorem f76_end (st : MtSt x (-1) L tm h) :
    EndsAs (fun _ _ => False) (fun _ _ => False) (fun j tm' h' => j = 0 ∧ MtSt x (-1) L tm' h') (runCode TT ev ⟨76, none⟩ f76B ⟨tm, [], h, none⟩) := by
  obtain ⟨hb, hn, c0, t1, ⟨v, t3, hv, hv0⟩, t4⟩ := st
  simp [f76B, piece, sel, sub, Tryz.f76, t4, condK_if]
  exact ⟨hb, hn, c0, by simp [t1], ⟨v, by simp [t3], hv, hv0⟩, by simp [t4]⟩
end
theorem metas76 : ∃ f : Lvl → List Int, FnC TT Tryz.prog 76 (fun x => x.vars.length < 1073741824) (fun x => [lvlV x]) (fun x => intsV (f x)) ∧ ∀ x : Lvl, x.vars.length < 1073741824 → (f x).length ≤ x.vars.length := by
  obtain ⟨C, hC, hH⟩ : ∃ C, ConS TT Tryz.prog C ∧ Has C 74 (fun x : Lvl => x.vars.length < big) (fun x => [lvlV x]) (fun x => .bool (validB x)) :=
    ⟨_, addC_sound noC_sound valid74, Has.add fun x y e => by simp at e; rw [lvlV_inj e]⟩
  refine fnP intsV (fun (x : Lvl) (l : List Int) => l.length ≤ x.vars.length) fun x hx => ?_
  have hx : x.vars.length < 1073741824 := hx
  have hxb : x.vars.length < big := by unfold big; omega
  have hev := fun n m => hH.ev (T := TT) n (x := x) hxb m
  have key : EndsAs (fun _ _ => False) (fun tm h => ∃ v L, tm.get 2 = some v ∧ IntA v h L ∧ L.length ≤ x.vars.length) (fun _ _ _ => False) (runCode TT (evK TT C (x.vars.length + 2 + 1)) ⟨76, none⟩ (.seq (piece Tryz.f76 [false]) (.seq (piece Tryz.f76 [true,false]) (.seq (piece Tryz.f76 [true,true,false]) (.seq (.seq (piece Tryz.f76 [true,true,true,false,false]) (.block 0 (.loop f76B))) (piece Tryz.f76 [true,true,true,true]))))) ⟨initT [lvlV x] 0 .nil, [], H.empty, none⟩) := by
    have p0 : EndsAs (fun tm h => h = H.empty.new (.cells (cellsL (lvlV x)) 86 false) ∧ tm.get 1 = some (.pointer (some ⟨0, 0, none⟩))) (fun _ _ => False) (fun _ _ _ => False) (runCode TT (evK TT C (x.vars.length + 2 + 1)) ⟨76, none⟩ (piece Tryz.f76 [false]) ⟨initT [lvlV x] 0 .nil, [], H.empty, none⟩) := by
      simp [piece, sel, sub, Tryz.f76]
    have p1 : ∀ tm h, (h = H.empty.new (.cells (cellsL (lvlV x)) 86 false) ∧ tm.get 1 = some (.pointer (some ⟨0, 0, none⟩))) → EndsAs (fun tm h => h = H.empty.new (.cells (cellsL (lvlV x)) 86 false) ∧ tm.get 1 = some (.pointer (some ⟨0, 0, none⟩)) ∧ tm.get 3 = some (.slice none 0 0)) (fun _ _ => False) (fun _ _ _ => False) (runCode TT (evK TT C (x.vars.length + 2 + 1)) ⟨76, none⟩ (piece Tryz.f76 [true,false]) ⟨tm, [], h, none⟩) := by
      rintro tm h ⟨rfl, t1⟩
      simp [piece, sel, sub, Tryz.f76, t1]
    have p2 : ∀ tm h, (h = H.empty.new (.cells (cellsL (lvlV x)) 86 false) ∧ tm.get 1 = some (.pointer (some ⟨0, 0, none⟩)) ∧ tm.get 3 = some (.slice none 0 0)) → EndsAs (fun tm h => h = H.empty.new (.cells (cellsL (lvlV x)) 86 false) ∧ tm.get 1 = some (.pointer (some ⟨0, 0, none⟩)) ∧ tm.get 3 = some (.slice none 0 0)) (fun tm h => ∃ v L, tm.get 2 = some v ∧ IntA v h L ∧ L.length ≤ x.vars.length) (fun _ _ _ => False) (runCode TT (evK TT C (x.vars.length + 2 + 1)) ⟨76, none⟩ (piece Tryz.f76 [true,true,false]) ⟨tm, [], h, none⟩) := by
      rintro tm h ⟨rfl, t1, t3⟩
      cases hv : validB x
      · simp [piece, sel, sub, Tryz.f76, t1, t3, hev, hv]
        exact ⟨[], .inl ⟨rfl, rfl⟩, by simp⟩
      · simp [piece, sel, sub, Tryz.f76, t1, t3, hev, hv]
    have p3 : ∀ tm h, (h = H.empty.new (.cells (cellsL (lvlV x)) 86 false) ∧ tm.get 1 = some (.pointer (some ⟨0, 0, none⟩)) ∧ tm.get 3 = some (.slice none 0 0)) → EndsAs (fun tm h => MtSt x ((x.vars.length : Nat) - 1 : Int) [] tm h) (fun _ _ => False) (fun _ _ _ => False) (runCode TT (evK TT C (x.vars.length + 2 + 1)) ⟨76, none⟩ (piece Tryz.f76 [true,true,true,false,false]) ⟨tm, [], h, none⟩) := by
      rintro tm h ⟨rfl, t1, t3⟩
      have e2 := wrap_less (i := x.vars.length) (by omega)
      simp [piece, sel, sub, Tryz.f76, t1, t3, e2]
      exact ⟨by simp, by simp, by simp, by simp [t1], ⟨_, by simp [t3], .inl ⟨rfl, rfl⟩, by simp [blkOf]⟩, by simp⟩
    refine ends_seqC (p0.mono (fun _ _ q => q) (fun _ _ q => q.elim) (fun _ _ _ q => q)) fun tm h q => ends_seqC ((p1 tm h q).mono (fun _ _ q => q) (fun _ _ q => q.elim) (fun _ _ _ q => q)) fun tm h q => ends_seqC (p2 tm h q) fun tm h q =>
      ends_seqC (N' := fun tm h => ∃ L, L.length ≤ x.vars.length ∧ MtSt x (-1) L tm h) (ends_seqC ((p3 tm h q).mono (fun _ _ q => q) (fun _ _ q => q.elim) (fun _ _ _ q => q)) fun tm h st => ?_) fun tm h q => ?_
    · refine ends_loop 0 (fun j tm h => ∃ L, L.length + j ≤ x.vars.length ∧ j ≤ x.vars.length ∧ MtSt x ((j : Int) - 1) L tm h) x.vars.length ⟨[], by simp, Nat.le_refl _, st⟩ (by omega) ?_
      rintro j tm h m ⟨L, h1, h2, st⟩ -
      cases j with
      | zero => exact (f76_end (L := L) (by simpa using st)).mono (fun _ _ q => q.elim) (fun _ _ q => q.elim) (fun _ _ _ q => ⟨q.1, L, by simpa using h1, q.2⟩)
      | succ i =>
        have e : ((i + 1 : Nat) : Int) - 1 = (i : Nat) := by omega
        rw [e] at st
        exact (f76_iter st (by omega) (by omega) (by omega)).mono (fun tm' h' ⟨L', q1, q2⟩ => ⟨i, by omega, L', by omega, by omega, q2⟩) (fun _ _ q => q.elim) (fun _ _ _ q => q.elim)
    · obtain ⟨L, hLL, hb, hn, c0, t1, ⟨v, t3, hv, hv0⟩, t4⟩ := q
      simp [piece, sel, sub, Tryz.f76, t3]
      exact ⟨L, hv, hLL⟩
  rcases key.cases with ⟨_, _, _, q⟩ | ⟨tm, m, e, v, L, t2, hv, hLL⟩ | ⟨_, _, _, _, q⟩
  · cases q
  · refine ⟨L, hLL, fun h => fnC_of (v := v) (h1 := m) tok C hC (.cons (lvlV_pure x) .nil) (x.vars.length + 2 + 1) ?_ hv.dat h⟩
    rw [fn_run (vs := [v]) (h2 := m) (ab := none) TT.f76 f76_split rfl (by rw [e]; simp [t2])]
    rfl
  · cases q
end Go.Proofs.YtkdfgoimgcegfaaGreatDoor
/- Layer 35: integers asked by a function that captures a pointer; the level of a bound. -/
namespace Go.Proofs.YtkdfgoimgcegfaaGreatDoor
open Go Go.Am Go.Proofs Go.Am.Sym Go.Am.Eu
set_option maxRecDepth 10000
theorem TT.f75 : TT.func 75 = some Tryz.f75 := by kernel_rfl
theorem TT.f132 : TT.func 132 = some Tryz.f132 := by kernel_rfl
theorem TT.f73 : TT.func 73 = some Tryz.f73 := by kernel_rfl
theorem TT.f77 : TT.func 77 = some Tryz.f77 := by kernel_rfl
theorem TT.f134 : TT.func 134 = some Tryz.f134 := by kernel_rfl
abbrev cloV (g : FuncId) (b : Nat) : Value := .func (.func g) ⟨[]⟩ ⟨[.pointer (some ⟨b, 0, none⟩)]⟩
noncomputable def f132B : Code := piece Tryz.f132 [true,false,true,false,false]
theorem f132_split : Tryz.f132.body = some (.seq (piece Tryz.f132 [false]) (.seq (.seq (piece Tryz.f132 [true,false,false]) (.block 0 (.loop f132B))) (piece Tryz.f132 [true,true]))) := rfl
structure ItSt (l : List Int) (f : Value) (i : Nat) (tm : Tr Value) : Prop where
  t0 : tm.get 0 = some (intsV l)
  t1 : tm.get 1 = some f
  t7 : tm.get 7 = some (i64 (l.length : Nat))
  t8 : tm.get 8 = some (i64 i)
section
variable {ev : Task → Ans} {l : List Int} {g : FuncId} {b i : Nat} {tm : Tr Value} {h : H}
theorem f132_iter (st : ItSt l (cloV g b) i tm) (hi : i < l.length) (hw1 : i + 1 ≤ big) {q : Int → Bool} (hev : ∀ k, ev (.call (cloV g b) [i64 k] h none) = .ret (.bool (q k)) h none) :
    EndsAs (fun tm' h' => h' = h ∧ ItSt l (cloV g b) (i + 1) tm') (fun tm' h' => h' = h ∧ ∃ k, tm'.get 4 = some (i64 k)) (fun _ _ _ => False)
      (runCode TT ev ⟨132, none⟩ f132B ⟨tm, [], h, none⟩) := by
  obtain ⟨t0, t1, t7, t8⟩ := st
  have e2 := wrapN hw1
  simp at e2
  have he := hev l[i]
  cases c : q l[i]
  · simp [f132B, piece, sel, sub, Tryz.f132, t0, t1, t7, t8, hi, e2, he, c]
    exact ⟨by simp [t0], by simp [t1], by simp [t7], by simp⟩
  · simp [f132B, piece, sel, sub, Tryz.f132, t0, t1, t7, t8, hi, e2, he, c]
theorem f132_end {f : Value} (st : ItSt l f i tm) (hi : l.length ≤ i) :
    EndsAs (fun _ _ => False) (fun _ _ => False) (fun j _ h' => j = 0 ∧ h' = h) (runCode TT ev ⟨132, none⟩ f132B ⟨tm, [], h, none⟩) := by
  obtain ⟨t0, t1, t7, t8⟩ := st
  have hi' : ¬ i < l.length := by omega
  simp [f132B, piece, sel, sub, Tryz.f132, t0, t1, t7, t8, hi']
end
theorem run132 {C : Con} (hC : C 132 = fun _ _ => none) {l : List Int} {g : FuncId} {b m : Nat} {h0 : H} (hl : l.length < big) (hm : l.length + 3 ≤ m) {q : Int → Bool} (hev : ∀ k n, evK TT C (n + 2) (.call (cloV g b) [i64 k] h0 none) = .ret (.bool (q k)) h0 none) :
    ∃ k, evK TT C (m + 1) (call0 132 [intsV l, cloV g b] h0) = .ret (i64 k) h0 none := by
  have key : EndsAs (fun _ _ => False) (fun tm h' => h' = h0 ∧ ∃ k, tm.get 4 = some (i64 k)) (fun _ _ _ => False)
      (runCode TT (evK TT C m) ⟨132, none⟩ (.seq (piece Tryz.f132 [false]) (.seq (.seq (piece Tryz.f132 [true,false,false]) (.block 0 (.loop f132B))) (piece Tryz.f132 [true,true]))) ⟨initT [intsV l, cloV g b] 0 .nil, [], h0, none⟩) := by
    have p0 : EndsAs (fun tm h => h = h0 ∧ tm.get 0 = some (intsV l) ∧ tm.get 1 = some (cloV g b)) (fun _ _ => False) (fun _ _ _ => False) (runCode TT (evK TT C m) ⟨132, none⟩ (piece Tryz.f132 [false]) ⟨initT [intsV l, cloV g b] 0 .nil, [], h0, none⟩) := by
      simp [piece, sel, sub, Tryz.f132]
    have p1 : ∀ tm h, (h = h0 ∧ tm.get 0 = some (intsV l) ∧ tm.get 1 = some (cloV g b)) → EndsAs (fun tm h => h = h0 ∧ ItSt l (cloV g b) 0 tm) (fun _ _ => False) (fun _ _ _ => False) (runCode TT (evK TT C m) ⟨132, none⟩ (piece Tryz.f132 [true,false,false]) ⟨tm, [], h, none⟩) := by
      rintro tm h ⟨rfl, t0, t1⟩
      simp [piece, sel, sub, Tryz.f132, t0, t1]
      exact ⟨by simp [t0], by simp [t1], by simp, by simp⟩
    refine ends_seqC (p0.mono (fun _ _ q => q) (fun _ _ q => q.elim) (fun _ _ _ q => q)) fun tm h q => ends_seqC (N' := fun _ h => h = h0) (ends_seqC ((p1 tm h q).mono (fun _ _ q => q) (fun _ _ q => q.elim) (fun _ _ _ q => q)) fun tm h st0 => ?_) fun tm h q => ?_
    · refine ends_loop 3 (fun j tm h => ∃ i, j = l.length - i ∧ i ≤ l.length ∧ h = h0 ∧ ItSt l (cloV g b) i tm) l.length ⟨0, rfl, by omega, st0⟩ (by omega) ?_
      rintro j tm h m ⟨i, rfl, hi, rfl, st⟩ hm3
      by_cases hlt : i < l.length
      · obtain ⟨m, rfl⟩ : ∃ m', m = m' + 2 := ⟨m - 2, by omega⟩
        exact (f132_iter st hlt (by omega) (fun k => hev k m)).mono (fun tm' h' q => ⟨_, by omega, i + 1, rfl, hlt, q⟩) (fun tm' h' q => q) (fun _ _ _ q => q.elim)
      · exact (f132_end st (by omega)).mono (fun _ _ q => q.elim) (fun _ _ q => q.elim) (fun _ _ _ q => q)
    · subst q
      simp [piece, sel, sub, Tryz.f132]
  rcases key.cases with ⟨_, _, _, q⟩ | ⟨tm, h', e, rfl, k, t4⟩ | ⟨_, _, _, _, q⟩
  · cases q
  · refine ⟨k, ?_⟩
    obtain ⟨m, rfl⟩ : ∃ m', m = m' + 1 := ⟨m - 1, by omega⟩
    rw [evK_call _ (by rw [hC]), fn_run (vs := [i64 k]) (h2 := h') (ab := none) TT.f132 f132_split rfl (by rw [e]; simp [t4])]
    rfl
  · cases q
theorem run75 {C : Con} (hC : C 132 = fun _ _ => none) (hC' : C 75 = fun _ _ => none) {l : List Int} {g : FuncId} {b m : Nat} {h0 : H} (hl : l.length < big) (hm : l.length + 4 ≤ m) {q : Int → Bool} (hev : ∀ k n, evK TT C (n + 2) (.call (cloV g b) [i64 k] h0 none) = .ret (.bool (q k)) h0 none) :
    ∃ v, evK TT C (m + 1) (call0 75 [intsV l, cloV g b] h0) = .ret (.bool v) h0 none := by
  obtain ⟨m, rfl⟩ : ∃ m', m = m' + 1 := ⟨m - 1, by omega⟩
  obtain ⟨k, e⟩ := run132 hC (l := l) (b := b) (m := m) hl (by omega) hev
  refine ⟨decide (0 ≤ k), ?_⟩
  rw [evK_call _ (by rw [hC']), fn_run (vs := [.bool (decide (0 ≤ k))]) (h2 := h0) (ab := none) TT.f75 rfl rfl (by simp [Tryz.f75, e])]
  rfl
theorem run77 {C : Con} {n b : Nat} {h : H} {s : Store} {k : Int} (hb : h.base = 0) (hg : h.get b = some (.cells (cellsL (storeV s)) 35 false)) :
    evK TT C (n + 2) (.call (cloV 77 b) [i64 k] h none) = .ret (.bool (decide (s.levels ≤ k))) h none := by
  rw [evK_clo, fn_run (vs := [.bool (decide (s.levels ≤ k))]) (h2 := h) (ab := none) TT.f77 rfl rfl (by
    simp [Tryz.f77, hb, hg])]
  rfl
theorem run134 {C : Con} {n b : Nat} {h : H} {i k : Int} (hb : h.base = 0) (hg : h.get b = some (.cells [i64 i] 3 false)) :
    evK TT C (n + 2) (.call (cloV 134 b) [i64 k] h none) = .ret (.bool (decide (k ≤ i))) h none := by
  rw [evK_clo, fn_run (vs := [.bool (decide (k ≤ i))]) (h2 := h) (ab := none) TT.f134 rfl rfl (by
    simp [Tryz.f134, hb, hg, p3])]
  rfl
end Go.Proofs.YtkdfgoimgcegfaaGreatDoor
