/- Layer 35: metavariables in order (law28.Good), goals in scope: they answer. -/
import Derived.Test.YtkdfgoimgcegfaaGreatDoorT35d
import Derived.Test.YtkdfgoimgcegfaaGreatDoorG35d
import Derived.Test.YtkdfgoimgcegfaaGreatDoorE35f
import Derived.Test.YtkdfgoimgcegfaaGreatDoorE35u
import Derived.Test.YtkdfgoimgcegfaaGreatDoorAmTask
set_option linter.unusedSectionVars false
set_option linter.unusedSimpArgs false
set_option linter.unusedVariables false
namespace Go.Proofs.YtkdfgoimgcegfaaGreatDoor
open Go Go.Am Go.Proofs Go.Am.Sym Go.Am.Eu
set_option maxRecDepth 10000
theorem TT.f72 : TT.func 72 = some Tryz.f72 := by kernel_rfl
theorem TT.f30 : TT.func 30 = some Tryz.f30 := by kernel_rfl
theorem flat1 (t : Term) : [t].flatMap tc = cellsL (tv t) := by rw [cells_tc]; simp
theorem flat2 (t s : Term) : [t, s].flatMap tc = tc2 t s := by simp [tc2]
theorem wtL_one (t : Term) : wtL [t] = wt t := by rw [wtL_cons]; show wt t + 0 = _; omega
theorem wtL_two (t s : Term) : wtL [t, s] = wt t + wt s := by rw [wtL_cons, wtL_one]
theorem build26z (h : H) : buildOf TT h 26 (some (.agg ⟨[i64 0, i64 0, se, sn, sn]⟩)) (some []) = .val (.agg ⟨[i64 0, i64 0, se, sn, sn]⟩) h := by kernel_rfl
theorem dat_zterm (g : Nat → Option AObj) : DatV g (.agg ⟨[i64 0, i64 0, se, sn, sn]⟩) (tv zt) := by
  have := dat_zt g (l := []) (d := []) .nil 0
  rw [tv_eq]
  exact .agg this
noncomputable def f72B : Code := piece Tryz.f72 [true,true,false,true,false,false]
theorem f72_split : Tryz.f72.body = some (.seq (piece Tryz.f72 [false]) (.seq (piece Tryz.f72 [true,false]) (.seq (.seq (piece Tryz.f72 [true,true,false,false]) (.block 0 (.loop f72B))) (piece Tryz.f72 [true,true,true])))) := rfl
structure GdSt (l : List Meta) (i : Nat) (tm : Tr Value) (h : H) : Prop where
  base : h.base = 0
  t0 : tm.get 0 = some (metasV l)
  t8 : tm.get 8 = some (metasV l)
  t9 : tm.get 9 = some (i64 (l.length : Nat))
  t10 : tm.get 10 = some (i64 i)
noncomputable abbrev GdH (h : H) (x : Meta) : H := (h.new (.cells [i64 0, i64 0, se, sn, sn, .bool false, i64 0, i64 0, se, sn, sn, .bool false] 64 false)).put h.next (.cells (cellsL (metaV x)) 64 false)
section
variable {ev : Task → Ans} {l : List Meta} {i : Nat} {tm : Tr Value} {h : H}
theorem f72_iter (st : GdSt l i tm h) (hi : i < l.length) (hw1 : i + 1 ≤ big)
    (h81 : ∃ y : H → Int, ∀ h b, b = h.next → h.base = 0 → ev (call0 81 [i64 40, .slice (some ⟨b, 0, none⟩) 2 2] (h.new (.cells (tc2 l[i].type l[i].value) 26 false))) = .ret (i64 (y h)) (h.new (.cells (tc2 l[i].type l[i].value) 26 false)) none)
    (h82 : ∃ y : H → Bool, ∀ h b, b = h.next → h.base = 0 → ev (call0 82 [.slice (some ⟨b, 0, none⟩) 2 2] (h.new (.cells (tc2 l[i].type l[i].value) 26 false))) = .ret (.bool (y h)) (h.new (.cells (tc2 l[i].type l[i].value) 26 false)) none)
    (h24 : ∀ t, t = l[i].type ∨ t = l[i].value → ∃ y : H → Int, ∀ h, ev (call0 24 [tv t, i64 0, i64 8, i64 (l.length : Nat), i64 65536] h) = .ret (i64 (y h)) h none)
    (h20 : ∃ y : H → Bool, ∀ h, ev (call0 20 [tv l[i].value, .agg ⟨[i64 0, i64 0, se, sn, sn]⟩] h) = .ret (.bool (y h)) h none) :
    EndsAs (fun tm' h' => GdSt l (i + 1) tm' h') (fun tm' _ => ∃ k, tm'.get 2 = some (.bool k)) (fun _ _ _ => False)
      (runCode TT ev ⟨72, none⟩ f72B ⟨tm, [], h, none⟩) := by
  obtain ⟨hb, t0, t8, t9, t10⟩ := st
  have e2 := wrapN hw1
  simp at e2
  obtain ⟨y1, hy1⟩ := h81
  obtain ⟨y2, hy2⟩ := h82
  obtain ⟨y3, hy3⟩ := h24 _ (.inl rfl)
  obtain ⟨y4, hy4⟩ := h24 _ (.inr rfl)
  obtain ⟨y5, hy5⟩ := h20
  have fin : ∀ tm' h', h'.base = 0 → tm'.get 0 = some (metasV l) → tm'.get 8 = some (metasV l) → tm'.get 9 = some (i64 (l.length : Nat)) → tm'.get 10 = some (i64 ((i : Int) + 1)) → GdSt l (i + 1) tm' h' := fun tm' h' a b c d e => ⟨a, b, c, d, e⟩
  have hy1 := hy1 (GdH h l[i]) (h.next + 1) (by simp) (by simp [hb])
  have hy2 := hy2 ((GdH h l[i]).new (.cells (tc2 l[i].type l[i].value) 26 false)) (h.next + 1 + 1) (by simp) (by simp [hb])
  have hy3 := hy3 (((GdH h l[i]).new (.cells (tc2 l[i].type l[i].value) 26 false)).new (.cells (tc2 l[i].type l[i].value) 26 false))
  have hy4 := hy4 (((GdH h l[i]).new (.cells (tc2 l[i].type l[i].value) 26 false)).new (.cells (tc2 l[i].type l[i].value) 26 false))
  have hy5 := hy5 (((GdH h l[i]).new (.cells (tc2 l[i].type l[i].value) 26 false)).new (.cells (tc2 l[i].type l[i].value) 26 false))
  generalize y1 (GdH h l[i]) = v1 at hy1
  generalize y2 _ = v2 at hy2
  generalize y3 _ = v3 at hy3
  generalize y4 _ = v4 at hy4
  generalize y5 _ = v5 at hy5
  have n2 : ¬ h.next = h.next + 1 + 1 := by omega
  by_cases c1 : 40 < v1
  · simp [f72B, piece, sel, sub, Tryz.f72, t0, t8, t9, t10, hb, hi, e2, hy1, condK_if, build26z, n2, c1]
  cases v2 with
  | false => simp [f72B, piece, sel, sub, Tryz.f72, t0, t8, t9, t10, hb, hi, e2, hy1, hy2, condK_if, build26z, n2, c1]
  | true =>
    by_cases c3 : v3 = 0
    · cases hk : l[i].known with
      | true =>
        by_cases c4 : v4 = 0
        · simp [f72B, piece, sel, sub, Tryz.f72, t0, t8, t9, t10, hb, hi, e2, hy1, hy2, hy3, hy4, condK_if, build26z, n2, c1, c3, hk, c4]
          exact fin _ _ (by simp [hb]) (by simp [t0]) (by simp [t8]) (by simp [t9]) (by simp)
        · simp [f72B, piece, sel, sub, Tryz.f72, t0, t8, t9, t10, hb, hi, e2, hy1, hy2, hy3, hy4, condK_if, build26z, n2, c1, c3, hk, c4]
      | false =>
        cases v5 with
        | true =>
          simp [f72B, piece, sel, sub, Tryz.f72, t0, t8, t9, t10, hb, hi, e2, hy1, hy2, hy3, hy5, condK_if, build26z, n2, c1, c3, hk]
          exact fin _ _ (by simp [hb]) (by simp [t0]) (by simp [t8]) (by simp [t9]) (by simp)
        | false => simp [f72B, piece, sel, sub, Tryz.f72, t0, t8, t9, t10, hb, hi, e2, hy1, hy2, hy3, hy5, condK_if, build26z, n2, c1, c3, hk]
    · simp [f72B, piece, sel, sub, Tryz.f72, t0, t8, t9, t10, hb, hi, e2, hy1, hy2, hy3, condK_if, build26z, n2, c1, c3]
theorem f72_end (st : GdSt l i tm h) (hi : l.length ≤ i) :
    EndsAs (fun _ _ => False) (fun _ _ => False) (fun j tm' h' => j = 0) (runCode TT ev ⟨72, none⟩ f72B ⟨tm, [], h, none⟩) := by
  obtain ⟨hb, t0, t8, t9, t10⟩ := st
  have hi' : ¬ i < l.length := by omega
  simp [f72B, piece, sel, sub, Tryz.f72, t9, t10, hi']
end
end Go.Proofs.YtkdfgoimgcegfaaGreatDoor
/- Layer 35: metavariables in order (law28.Good): the contract. -/
namespace Go.Proofs.YtkdfgoimgcegfaaGreatDoor
open Go Go.Am Go.Proofs Go.Am.Sym Go.Am.Eu
set_option maxRecDepth 10000
def metasOk (l : List Meta) : Prop := l.length < big ∧ ∀ y ∈ l, wt y.type + wt y.value < big
theorem good72 : ∃ f : List Meta → Bool, FnC TT Tryz.prog 72 metasOk (fun l => [metasV l]) (fun x => .bool (f x)) := by
  obtain ⟨f1, hf1⟩ := nodes81
  obtain ⟨f2, hf2⟩ := few82
  obtain ⟨f3, hf3⟩ := same20Z
  obtain ⟨C, hC, h81, h82, h20, h24⟩ : ∃ C, ConS TT Tryz.prog C ∧ HasE C 81 (fun x : NdArg => wtL x.2 < big) encN i64 ∧ HasE C 82 (fun x : List Term => wtL x < big) (fun x => [termsV x]) Value.bool ∧
      HasE C 20 (fun _ : Term => True) (fun t => [tv t, tv zt]) Value.bool ∧ HasE C 24 ChArg.okR ChArg.enc i64 :=
    ⟨_, addM_sound (addM_sound (addM_sound (addM_sound noC_sound (fun _ => rfl) hf1) (fun _ => rfl) hf2) (fun _ => rfl) hf3) (fun _ => rfl) check24R,
      .skip (by decide) (.skip (by decide) (.skip (by decide) .add)), .skip (by decide) (.skip (by decide) .add), .skip (by decide) .add, .add⟩
  refine fnE Value.bool fun l hx => fnE_ends tok C hC (.cons (metasV_pure l) .nil) (fun _ => .ground rfl) (l.length + 1) TT.f72 f72_split rfl ?_
  obtain ⟨hlen, hall⟩ := hx
  have p0 : EndsAs (fun tm h => h.base = 0 ∧ tm.get 0 = some (metasV l)) (fun _ _ => False) (fun _ _ _ => False) (runCode TT (evK TT C (l.length + 1 + 1)) ⟨72, none⟩ (piece Tryz.f72 [false]) ⟨initT [metasV l] 0 .nil, [], H.empty, none⟩) := by
    simp [piece, sel, sub, Tryz.f72]
  have p1 : ∀ tm h, (h.base = 0 ∧ tm.get 0 = some (metasV l)) → EndsAs (fun tm h => h.base = 0 ∧ tm.get 0 = some (metasV l)) (fun tm _ => ∃ k, tm.get 2 = some (.bool k)) (fun _ _ _ => False) (runCode TT (evK TT C (l.length + 1 + 1)) ⟨72, none⟩ (piece Tryz.f72 [true,false]) ⟨tm, [], h, none⟩) := by
    rintro tm h ⟨hb, t0⟩
    by_cases c : (8 : Int) < (l.length : Nat)
    · simp [piece, sel, sub, Tryz.f72, t0, hb, c]
    · simp [piece, sel, sub, Tryz.f72, t0, hb, c]
  have p2 : ∀ tm h, (h.base = 0 ∧ tm.get 0 = some (metasV l)) → EndsAs (fun tm h => GdSt l 0 tm h) (fun _ _ => False) (fun _ _ _ => False) (runCode TT (evK TT C (l.length + 1 + 1)) ⟨72, none⟩ (piece Tryz.f72 [true,true,false,false]) ⟨tm, [], h, none⟩) := by
    rintro tm h ⟨hb, t0⟩
    simp [piece, sel, sub, Tryz.f72, t0, hb]
    exact ⟨hb, by simp [t0], by simp, by simp, by simp⟩
  refine ends_seqC (p0.mono (fun _ _ q => q) (fun _ _ q => q.elim) (fun _ _ _ q => q)) fun tm h q => ends_seqC (p1 tm h q) fun tm h q =>
    ends_seqC (N' := fun _ _ => True) (ends_seqC ((p2 tm h q).mono (fun _ _ q => q) (fun _ _ q => q.elim) (fun _ _ _ q => q)) fun tm h st => ?_) fun tm h q => ?_
  · refine ends_loop 0 (fun j tm h => ∃ i, j = l.length - i ∧ i ≤ l.length ∧ GdSt l i tm h) l.length ⟨0, rfl, by omega, st⟩ (by omega) ?_
    rintro j tm h m ⟨i, rfl, hi, st⟩ -
    by_cases hlt : i < l.length
    · have hw := hall l[i] (List.getElem_mem hlt)
      refine (f72_iter st hlt (by omega) ?_ ?_ ?_ ?_).mono (fun tm' h' q => ⟨_, by omega, i + 1, rfl, hlt, q⟩) (fun tm' h' q => q) (fun _ _ _ q => q.elim)
      · obtain ⟨y, hy⟩ := mem_terms h81 (x := (40, [l[i].type, l[i].value])) (by show wtL _ < big; rw [wtL_two]; exact hw) (ps := [i64 40]) (qs := []) (l := [l[i].type, l[i].value]) rfl (.cons (.ground rfl) .nil) .nil
        rw [flat2] at hy
        exact ⟨y, hy m⟩
      · obtain ⟨y, hy⟩ := mem_terms h82 (x := [l[i].type, l[i].value]) (by show wtL _ < big; rw [wtL_two]; exact hw) (ps := []) (qs := []) (l := [l[i].type, l[i].value]) rfl .nil .nil
        rw [flat2] at hy
        exact ⟨y, hy m⟩
      · rintro t ht
        obtain ⟨y, hy⟩ := h24.data (T := TT) (x := ⟨t, 0, 8, (l.length : Nat), 65536⟩) ⟨by show wt t < big; rcases ht with rfl | rfl <;> omega, by show (0 : Int) ≤ 0; decide, by show (0 : Int) ≤ 8; decide⟩ (ChArg.enc_pure _)
        exact ⟨y, hy m⟩
      · have key : ∀ h : H, ∃ y, ∀ n, evK TT C n (call0 20 [tv l[i].value, .agg ⟨[i64 0, i64 0, se, sn, sn]⟩] h) = .ret (.bool y) h none := fun h => h20.ev (x := l[i].value) trivial (.cons (.pure (tv_pure _)) (.cons (dat_zterm _) .nil))
        exact ⟨fun h => Classical.choose (key h), fun h => Classical.choose_spec (key h) m⟩
    · exact (f72_end st (by omega)).mono (fun _ _ q => q.elim) (fun _ _ q => q.elim) (fun _ _ _ q => ⟨q, trivial⟩)
  · simp [piece, sel, sub, Tryz.f72]
/-! The goals in scope. -/
structure IsArg where
  m : List Meta
  v : Int
  l : List Goal
def IsArg.enc (x : IsArg) : List Value := [metasV x.m, i64 x.v, goalsV x.l]
theorem IsArg.enc_pure (x : IsArg) : PureL x.enc := .cons (metasV_pure _) (.cons (.ground rfl) (.cons (goalsV_pure _) .nil))
def goalOk (g : Goal) : Prop := g.names.length < big ∧ wtL g.ctx < big ∧ wt g.target < big
def goalsOk (l : List Goal) : Prop := l.length < big ∧ ∀ g ∈ l, goalOk g
noncomputable def f30B : Code := piece Tryz.f30 [true,false,true,false,false]
theorem f30_split : Tryz.f30.body = some (.seq (piece Tryz.f30 [false]) (.seq (.seq (piece Tryz.f30 [true,false,false]) (.block 0 (.loop f30B))) (piece Tryz.f30 [true,true]))) := rfl
structure IgSt (x : IsArg) (i : Nat) (tm : Tr Value) (h : H) : Prop where
  base : h.base = 0
  t0 : tm.get 0 = some (metasV x.m)
  t1 : tm.get 1 = some (i64 x.v)
  t2 : tm.get 2 = some (goalsV x.l)
  t9 : tm.get 9 = some (goalsV x.l)
  t10 : tm.get 10 = some (i64 (x.l.length : Nat))
  t11 : tm.get 11 = some (i64 i)
noncomputable abbrev GoH (h : H) (x : Goal) : H := (h.new (.cells [i64 0, sn, sn, i64 0, i64 0, se, sn, sn] 58 false)).put h.next (.cells (cellsL (goalV x)) 58 false)
section
variable {ev : Task → Ans} {x : IsArg} {i : Nat} {tm : Tr Value} {h : H}
theorem f30_iter (st : IgSt x i tm h) (hi : i < x.l.length) (hw1 : i + 1 ≤ big)
    (h5 : ∃ y : H → Bool, ∀ h, ev (call0 5 [strsV x.l[i].names, fnV 80] h) = .ret (.bool (y h)) h none)
    (h31 : ∃ y : H → Bool, ∀ h b, b = h.next → h.base = 0 → ev (call0 31 [metasV x.m, termsV x.l[i].ctx, .slice (some ⟨b, 0, none⟩) 1 1] (h.new (.cells (cellsL (tv x.l[i].target)) 26 false))) = .ret (.bool (y h)) (h.new (.cells (cellsL (tv x.l[i].target)) 26 false)) none)
    (h78 : ∃ y : H → Int, ∀ h, ev (call0 78 [termsV x.l[i].ctx, i64 0, i64 8, i64 (x.m.length : Nat), i64 x.v] h) = .ret (i64 (y h)) h none)
    (h24 : ∃ y : H → Int, ∀ h, ev (call0 24 [tv x.l[i].target, i64 (x.l[i].ctx.length : Nat), i64 8, i64 (x.m.length : Nat), i64 x.v] h) = .ret (i64 (y h)) h none) :
    EndsAs (fun tm' h' => IgSt x (i + 1) tm' h') (fun tm' _ => ∃ k, tm'.get 6 = some (.bool k)) (fun _ _ _ => False)
      (runCode TT ev ⟨30, none⟩ f30B ⟨tm, [], h, none⟩) := by
  obtain ⟨hb, t0, t1, t2, t9, t10, t11⟩ := st
  have e2 := wrapN hw1
  simp at e2
  obtain ⟨y1, hy1⟩ := h5
  obtain ⟨y2, hy2⟩ := h31
  obtain ⟨y3, hy3⟩ := h78
  obtain ⟨y4, hy4⟩ := h24
  have fin : ∀ tm' h', h'.base = 0 → tm'.get 0 = some (metasV x.m) → tm'.get 1 = some (i64 x.v) → tm'.get 2 = some (goalsV x.l) → tm'.get 9 = some (goalsV x.l) → tm'.get 10 = some (i64 (x.l.length : Nat)) → tm'.get 11 = some (i64 ((i : Int) + 1)) → IgSt x (i + 1) tm' h' := fun tm' h' a b c d e f g => ⟨a, b, c, d, e, f, g⟩
  have hy1 := hy1 (GoH h x.l[i])
  have hy2 := hy2 (GoH h x.l[i]) (h.next + 1) (by simp) (by simp [hb])
  have hy3 := hy3 ((GoH h x.l[i]).new (.cells (cellsL (tv x.l[i].target)) 26 false))
  have hy4 := hy4 ((GoH h x.l[i]).new (.cells (cellsL (tv x.l[i].target)) 26 false))
  generalize y1 (GoH h x.l[i]) = v1 at hy1
  generalize y2 _ = v2 at hy2
  generalize y3 _ = v3 at hy3
  generalize y4 _ = v4 at hy4
  have n2 : ¬ h.next = h.next + 1 + 1 := by omega
  by_cases c1 : (8 : Int) < (x.l[i].names.length : Nat)
  · simp [f30B, piece, sel, sub, Tryz.f30, t0, t1, t2, t9, t10, t11, hb, hi, e2, condK_if, n2, c1]
  cases v1 with
  | true => simp [f30B, piece, sel, sub, Tryz.f30, t0, t1, t2, t9, t10, t11, hb, hi, e2, hy1, condK_if, n2, c1]
  | false =>
    cases v2 with
    | false => simp [f30B, piece, sel, sub, Tryz.f30, t0, t1, t2, t9, t10, t11, hb, hi, e2, hy1, hy2, condK_if, n2, c1]
    | true =>
      by_cases c3 : v3 = 0
      · by_cases c4 : v4 = 0
        · simp [f30B, piece, sel, sub, Tryz.f30, t0, t1, t2, t9, t10, t11, hb, hi, e2, hy1, hy2, hy3, hy4, condK_if, n2, c1, c3, c4]
          exact fin _ _ (by simp [hb]) (by simp [t0]) (by simp [t1]) (by simp [t2]) (by simp [t9]) (by simp [t10]) (by simp)
        · simp [f30B, piece, sel, sub, Tryz.f30, t0, t1, t2, t9, t10, t11, hb, hi, e2, hy1, hy2, hy3, hy4, condK_if, n2, c1, c3, c4]
      · simp [f30B, piece, sel, sub, Tryz.f30, t0, t1, t2, t9, t10, t11, hb, hi, e2, hy1, hy2, hy3, condK_if, n2, c1, c3]
theorem f30_end (st : IgSt x i tm h) (hi : x.l.length ≤ i) :
    EndsAs (fun _ _ => False) (fun _ _ => False) (fun j tm' h' => j = 0 ∧ tm'.get 2 = some (goalsV x.l)) (runCode TT ev ⟨30, none⟩ f30B ⟨tm, [], h, none⟩) := by
  obtain ⟨hb, t0, t1, t2, t9, t10, t11⟩ := st
  have hi' : ¬ i < x.l.length := by omega
  simp [f30B, piece, sel, sub, Tryz.f30, t2, t10, t11, hi']
end
theorem scope30 : ∃ f : IsArg → Bool, FnC TT Tryz.prog 30 (fun x => goalsOk x.l) IsArg.enc (fun x => .bool (f x)) := by
  obtain ⟨f1, hf1⟩ := contains5G long80
  obtain ⟨f2, hf2⟩ := small31
  obtain ⟨f3, hf3⟩ := check78
  obtain ⟨C, hC, h5, h31, h78, h24⟩ : ∃ C, ConS TT Tryz.prog C ∧ HasE C 5 (fun l : List ByteArray => l.length < big) (fun l => [strsV l, fnV 80]) Value.bool ∧ HasE C 31 SmArg.ok SmArg.enc Value.bool ∧
      HasE C 78 (fun x : CcArg => wtL x.c < big ∧ 0 ≤ x.p) CcArg.enc i64 ∧ HasE C 24 ChArg.okR ChArg.enc i64 :=
    ⟨_, addM_sound (addM_sound (addM_sound (addM_sound noC_sound (fun _ => rfl) hf1) (fun _ => rfl) hf2) (fun _ => rfl) hf3) (fun _ => rfl) check24R,
      .skip (by decide) (.skip (by decide) (.skip (by decide) .add)), .skip (by decide) (.skip (by decide) .add), .skip (by decide) .add, .add⟩
  refine fnE Value.bool fun x hx => fnE_ends tok C hC x.enc_pure (fun _ => .ground rfl) (x.l.length + 1) TT.f30 f30_split rfl ?_
  obtain ⟨hlen, hall⟩ := hx
  have p0 : EndsAs (fun tm h => h.base = 0 ∧ tm.get 0 = some (metasV x.m) ∧ tm.get 1 = some (i64 x.v) ∧ tm.get 2 = some (goalsV x.l)) (fun _ _ => False) (fun _ _ _ => False) (runCode TT (evK TT C (x.l.length + 1 + 1)) ⟨30, none⟩ (piece Tryz.f30 [false]) ⟨initT x.enc 0 .nil, [], H.empty, none⟩) := by
    simp [piece, sel, sub, Tryz.f30, IsArg.enc]
  have p2 : ∀ tm h, (h.base = 0 ∧ tm.get 0 = some (metasV x.m) ∧ tm.get 1 = some (i64 x.v) ∧ tm.get 2 = some (goalsV x.l)) → EndsAs (fun tm h => IgSt x 0 tm h) (fun _ _ => False) (fun _ _ _ => False) (runCode TT (evK TT C (x.l.length + 1 + 1)) ⟨30, none⟩ (piece Tryz.f30 [true,false,false]) ⟨tm, [], h, none⟩) := by
    rintro tm h ⟨hb, t0, t1, t2⟩
    simp [piece, sel, sub, Tryz.f30, t2, hb]
    exact ⟨hb, by simp [t0], by simp [t1], by simp [t2], by simp, by simp, by simp⟩
  refine ends_seqC (p0.mono (fun _ _ q => q) (fun _ _ q => q.elim) (fun _ _ _ q => q)) fun tm h q =>
    ends_seqC (N' := fun tm _ => tm.get 2 = some (goalsV x.l)) (ends_seqC ((p2 tm h q).mono (fun _ _ q => q) (fun _ _ q => q.elim) (fun _ _ _ q => q)) fun tm h st => ?_) fun tm h q => ?_
  · refine ends_loop 0 (fun j tm h => ∃ i, j = x.l.length - i ∧ i ≤ x.l.length ∧ IgSt x i tm h) x.l.length ⟨0, rfl, by omega, st⟩ (by omega) ?_
    rintro j tm h m ⟨i, rfl, hi, st⟩ -
    by_cases hlt : i < x.l.length
    · obtain ⟨g1, g2, g3⟩ := hall x.l[i] (List.getElem_mem hlt)
      refine (f30_iter st hlt (by omega) ?_ ?_ ?_ ?_).mono (fun tm' h' q => ⟨_, by omega, i + 1, rfl, hlt, q⟩) (fun tm' h' q => q) (fun _ _ _ q => q.elim)
      · obtain ⟨y, hy⟩ := h5.data (T := TT) (x := x.l[i].names) g1 (.cons (strsV_pure _) (.cons (.func _ .nil .nil) .nil))
        exact ⟨y, hy m⟩
      · obtain ⟨y, hy⟩ := mem_terms h31 (x := ⟨x.m, x.l[i].ctx, [x.l[i].target]⟩) ⟨g2, by show wtL [_] < big; rw [wtL_one]; exact g3⟩ (ps := [metasV x.m, termsV x.l[i].ctx]) (qs := []) (l := [x.l[i].target]) rfl (.cons (metasV_pure _) (.cons (termsV_pure _) .nil)) .nil
        rw [flat1] at hy
        exact ⟨y, hy m⟩
      · obtain ⟨y, hy⟩ := h78.data (T := TT) (x := ⟨x.l[i].ctx, 8, (x.m.length : Nat), x.v⟩) ⟨g2, by show (0 : Int) ≤ 8; decide⟩ (CcArg.enc_pure _)
        exact ⟨y, hy m⟩
      · obtain ⟨y, hy⟩ := h24.data (T := TT) (x := ⟨x.l[i].target, (x.l[i].ctx.length : Nat), 8, (x.m.length : Nat), x.v⟩) ⟨g3, by show (0 : Int) ≤ (x.l[i].ctx.length : Nat); omega, by show (0 : Int) ≤ 8; decide⟩ (ChArg.enc_pure _)
        exact ⟨y, hy m⟩
    · exact (f30_end st (by omega)).mono (fun _ _ q => q.elim) (fun _ _ q => q.elim) (fun _ _ _ q => q)
  · simp [piece, sel, sub, Tryz.f30, q]
    omega
end Go.Proofs.YtkdfgoimgcegfaaGreatDoor
/- Layer 35: slices of integers that are made; those of a level's metavariables. -/
namespace Go.Am.Eu
open Go Go.Am
def intsV (l : List Int) : Value := dsl (l.map i64) 0 l.length []
theorem intsV_pure (l : List Int) : PureV (intsV l) := .data _ _ _ _ (map_pure (fun _ => .ground rfl) l)
def blkOf : Value → Option Nat
  | .slice (some a) _ _ => some a.block
  | _ => none
end Go.Am.Eu
namespace Go.Am.Sym
open Go Go.Am
@[simp] theorem h_drop_next (h : H) (b : Nat) : (h.drop b).next = h.next := drop_next h b
@[simp] theorem h_drop_base (h : H) (b : Nat) : (h.drop b).base = h.base := drop_base h b
@[simp] theorem h_drop_get (h : H) (b j : Nat) : (h.drop b).get j = if j = b then none else h.get j := by
  by_cases e : j = b
  · rw [if_pos e, e]; exact drop_get_eq h b
  · rw [if_neg e]; exact drop_get_ne h e
end Go.Am.Sym
namespace Go.Proofs.YtkdfgoimgcegfaaGreatDoor
open Go Go.Am Go.Proofs Go.Am.Sym Go.Am.Eu
set_option maxRecDepth 10000
@[simp] theorem TT.u140 : TT.under 140 = some (.slice 3) := by kernel_rfl
theorem s3i : Am.size TT 3 = some 1 := by kernel_rfl
@[simp] theorem idx_ints {h : H} {l : List Int} {k : IntKind} {i : Nat} (hi : i < l.length) : indexAddrOf TT h (some (.slice 3)) (some (intsV l)) (some (.int k (i : Int))) = .val (dptr (i64 l[i]) 0) h :=
  indexAddr_data (e := i64 l[i]) s3i hi (by simp [hi]) rfl
@[simp] theorem len_ints (h : H) (e : TypeId) (l : List Int) : lenBy h (some (.slice e)) (intsV l) = .val (.int .i64 l.length) h := rfl
@[simp] theorem p3_int (x : Int) : partOf TT 3 (cellsL (i64 x)) 0 = some (i64 x) := by rw [p3]; rfl
theorem info3 : (TT.info.get 3).map (fun i => (i.size, Nat.ble i.bytes 65536)) = some (1, true) := by kernel_rfl
theorem zeroN3 : isSomeL (zeroN TT 3) = true := by kernel_rfl
@[simp] theorem bs140 (h : H) (x : Int) : buildSliceOf TT h 1 (some (.slice 3)) (some [(0, i64 x)]) = .val (.slice (some ⟨h.next, 0, none⟩) 1 1) (h.new (.cells [i64 x] 3 false)) := by kernel_rfl
theorem append_int0 {h : H} {B : Nat} {x : Int} {e : TypeId} {g : Bool} (hB : h.get B = some (.cells [i64 x] e g)) :
    appendOf TT h (.slice (some ⟨B, 0, none⟩) 1 1) (some (.slice 3)) (some (.slice 3)) (.slice none 0 0) (some 1) = .val (.slice (some ⟨h.next, 0, none⟩) 1 1) ((h.touch B).new (.cells [i64 x] 3 true)) := by
  have hi := info3
  cases hT : TT.info.get 3 with
  | none => rw [hT] at hi; cases hi
  | some i =>
    rw [hT] at hi
    simp at hi
    show appendSz TT h 3 (.slice none 0 0) (.slice (some ⟨B, 0, none⟩) 1 1) none 0 0 1 (TT.info.get 3) = _
    rw [hT]
    unfold appendSz
    dsimp only
    have hf : firstCells h 1 1 (.slice (some ⟨B, 0, none⟩) 1 1) = some [i64 x] := by
      show rowCells 0 (Nat.mul 1 1) (blockCells (h.get B)) = _
      rw [hB]; rfl
    have h2 : Nat.ble i.bytes 65536 = true := Nat.ble_eq_true_of_le hi.2
    rw [hi.1, hf, zeroN3, h2]
    show Res.val (.slice (some ⟨(h.touch B).next, 0, none⟩) 1 1) _ = _
    rw [touch_next]; rfl
theorem append_int {h : H} {b B n : Nat} {x : Int} {e : TypeId} {g : Bool} {c : List Value} (hb : h.get b = some (.cells c 3 true)) (hc : c.length = n) (hB : h.get B = some (.cells [i64 x] e g)) (hn : n + 1 ≤ 1073741824) :
    appendOf TT h (.slice (some ⟨B, 0, none⟩) 1 1) (some (.slice 3)) (some (.slice 3)) (.slice (some ⟨b, 0, none⟩) n n) (some 1) =
      .val (.slice (some ⟨h.next, 0, none⟩) (n + 1) (n + 1)) ((((h.touch b).touch B).drop b).new (.cells (c ++ [i64 x]) 3 true)) := by
  have hi := info3
  cases hT : TT.info.get 3 with
  | none => rw [hT] at hi; cases hi
  | some i =>
    rw [hT] at hi
    simp at hi
    show appendSz TT h 3 (.slice (some ⟨b, 0, none⟩) n n) (.slice (some ⟨B, 0, none⟩) 1 1) (some ⟨b, 0, none⟩) n n 1 (TT.info.get 3) = _
    rw [hT]
    unfold appendSz
    dsimp only
    have h2 : Nat.ble i.bytes 65536 = true := Nat.ble_eq_true_of_le hi.2
    have h3 : Nat.ble (Nat.add n 1) 1073741824 = true := Nat.ble_eq_true_of_le hn
    have hf : firstCells h 1 1 (.slice (some ⟨B, 0, none⟩) 1 1) = some [i64 x] := by
      show rowCells 0 (Nat.mul 1 1) (blockCells (h.get B)) = _
      rw [hB]; rfl
    have h4 : firstCells h n 1 (.slice (some ⟨b, 0, none⟩) n n) = some c := by
      show rowCells 0 (Nat.mul n 1) (blockCells (h.get b)) = _
      rw [hb]
      show cut c 0 (n * 1) = _
      rw [cut_some (by omega), List.drop_zero, List.take_of_length_le (by omega)]
    rw [hi.1, hf, zeroN3, h2, h3, h4]
    show cond (cond true (cond (Nat.beq (lenL c) (Nat.mul n 1)) true false) false) (appendRow TT ((h.touch b).touch B) b 0 3 1 n n 1 c [i64 x] (((h.touch b).touch B).get b)) .fail = _
    rw [lenL_eq, nbeq_eq (show c.length = Nat.mul n 1 by rw [hc]; exact (Nat.mul_one n).symm), touch_get, touch_get, hb]
    show appendRow TT ((h.touch b).touch B) b 0 3 1 n n 1 c [i64 x] (some (.cells c 3 true)) = _
    unfold appendRow
    have h5 : Nat.ble (Nat.add n 1) n = false := by
      cases h : Nat.ble (Nat.add n 1) n with
      | false => rfl
      | true => have : n + 1 ≤ n := Nat.le_of_ble_eq_true h; omega
    show onB _ _ (Nat.ble (Nat.add n 1) n) = _
    rw [h5]
    show appendOut TT ((h.touch b).touch B) b 3 1 (Nat.add n 1) (Nat.add 0 (Nat.mul n 1)) (appL c [i64 x]) c 3 true = _
    unfold appendOut
    rw [s3i, lenL_eq, nbeq_eq (show Nat.add 0 (Nat.mul n 1) = c.length by rw [hc]; show 0 + n * 1 = n; omega), appL_eq']
    show Res.val (.slice (some ⟨(((h.touch b).touch B).drop b).next, 0, none⟩) (n + 1) (n + 1)) _ = _
    rw [drop_next, touch_next, touch_next]
/-- A slice of integers that was made. -/
def IntA (v : Value) (h : H) (L : List Int) : Prop :=
  (L = [] ∧ v = .slice none 0 0) ∨ ∃ b, b < h.next ∧ v = .slice (some ⟨b, 0, none⟩) L.length L.length ∧ h.get b = some (.cells (L.map i64) 3 true)
theorem IntA.len {v : Value} {h : H} {L : List Int} (a : IntA v h L) : lenOf v = some L.length := by
  rcases a with ⟨rfl, rfl⟩ | ⟨b, _, rfl, _⟩ <;> rfl
theorem IntA.lenBy {v : Value} {h : H} {L : List Int} (a : IntA v h L) (h' : H) (e : TypeId) : lenBy h' (some (.slice e)) v = .val (i64 (L.length : Nat)) h' := by
  rcases a with ⟨rfl, rfl⟩ | ⟨b, _, rfl, _⟩ <;> rfl
theorem flat_ints : ∀ L : List Int, (L.map i64).flatMap cellsL = L.map i64
  | [] => rfl
  | a :: l => by simp only [List.map_cons, List.flatMap_cons, flat_ints l]; rfl
theorem IntA.dat {v : Value} {h : H} {L : List Int} (a : IntA v h L) : DatV h.get v (intsV L) := by
  rcases a with ⟨rfl, rfl⟩ | ⟨b, _, rfl, hg⟩
  · exact .slice0
  · refine DatV.slice (pre := []) (post := []) (es := L.map i64) (ds := L.map i64) (e := 3) (gr := true) (sz := 1) (by rw [hg, flat_ints]; simp) rfl (fun y hy => ?_) (by simp) (Nat.le_refl _) (DatL.pure (map_pure (fun _ => .ground rfl) _))
    obtain ⟨s, _, rfl⟩ := List.mem_map.1 hy; rfl
/-- Memory that was there is as it was, but for the row of one slice. -/
def Kept (v : Value) (h0 h : H) : Prop := h.base = 0 ∧ h0.next ≤ h.next ∧ ∀ j, j < h0.next → blkOf v ≠ some j → h.get j = h0.get j
/-- Of two slices: what the second lies in is the first's row, or younger. -/
def Young (v : Value) (n : Nat) (v' : Value) : Prop := ∀ b, blkOf v' = some b → blkOf v = some b ∨ n ≤ b
theorem IntA.append {v : Value} {h : H} {L : List Int} {B : Nat} {x : Int} {e : TypeId} {g : Bool} (a : IntA v h L) (h0 : h.base = 0) (hn : L.length + 1 ≤ 1073741824) (hB : h.get B = some (.cells [i64 x] e g)) :
    ∃ v' h', appendOf TT h (.slice (some ⟨B, 0, none⟩) 1 1) (some (.slice 3)) (some (.slice 3)) v (some 1) = .val v' h' ∧ IntA v' h' (L ++ [x]) ∧ Kept v h h' ∧ Young v h.next v' := by
  rcases a with ⟨rfl, rfl⟩ | ⟨b, hb, rfl, hg⟩
  · refine ⟨_, _, append_int0 hB, .inr ⟨h.next, by simp, rfl, by simp⟩, ⟨by simp [h0], by simp, fun j hj _ => ?_⟩, fun b hb => ?_⟩
    · have : ¬ j = h.next := by omega
      simp [this]
    · right; simp [blkOf] at hb; omega
  · refine ⟨_, _, append_int hg (by simp) hB hn, .inr ⟨h.next, by simp, by simp, by simp⟩, ⟨by simp [h0], by simp, fun j hj hne => ?_⟩, fun b' hb' => ?_⟩
    · have h1 : ¬ j = h.next := by omega
      have h2 : ¬ j = b := fun e => hne (by rw [e]; rfl)
      simp [h1, h2]
    · right; simp [blkOf] at hb'; omega
theorem IntA.keep {v : Value} {h h' : H} {L : List Int} (a : IntA v h L) (hn : h.next ≤ h'.next) (hk : ∀ j, blkOf v = some j → h'.get j = h.get j) : IntA v h' L := by
  rcases a with ⟨rfl, rfl⟩ | ⟨b, hb, rfl, hg⟩
  · exact .inl ⟨rfl, rfl⟩
  · exact .inr ⟨b, by omega, rfl, by rw [hk b rfl]; exact hg⟩
theorem IntA.blk {v : Value} {h : H} {L : List Int} (a : IntA v h L) {j : Nat} (hj : blkOf v = some j) : j < h.next := by
  rcases a with ⟨rfl, rfl⟩ | ⟨b, hb, rfl, hg⟩
  · cases hj
  · injection hj with hj; have hj : b = j := hj; omega
end Go.Proofs.YtkdfgoimgcegfaaGreatDoor
