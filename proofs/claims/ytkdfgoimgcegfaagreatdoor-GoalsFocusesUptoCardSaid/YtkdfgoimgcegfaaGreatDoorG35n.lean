/- Layer 35: stores in order (law31.Few): the loops. -/
import Derived.Test.YtkdfgoimgcegfaaGreatDoorG35f
import Derived.Test.YtkdfgoimgcegfaaGreatDoorG35k
set_option linter.unusedSectionVars false
set_option linter.unusedSimpArgs false
set_option linter.unusedVariables false
namespace Go.Proofs.YtkdfgoimgcegfaaGreatDoor
open Go Go.Am Go.Proofs Go.Am.Sym Go.Am.Eu
set_option maxRecDepth 10000
theorem TT.f29 : TT.func 29 = some Tryz.f29 := by kernel_rfl
theorem names71 : FnC TT Tryz.prog 71 (fun _ : Unit => True) (fun _ => [sn]) (fun _ => .bool true) :=
  fun _ _ h => closed_fn tok 12 (.cons (.ground rfl) .nil) (.ground rfl) (by kernel_rfl) h
theorem good70 : FnC TT Tryz.prog 70 (fun _ : Unit => True) (fun _ => [sn]) (fun _ => .bool true) :=
  fun _ _ h => closed_fn tok 12 (.cons (.ground rfl) .nil) (.ground rfl) (by kernel_rfl) h
theorem run73 {C : Con} {f : Lvl → List Int} (H74 : Has C 74 (fun x : Lvl => x.vars.length < big) (fun x => [lvlV x]) (fun x => .bool (validB x))) (H76 : Has C 76 (fun x : Lvl => x.vars.length < 1073741824) (fun x => [lvlV x]) (fun x => intsV (f x)))
    (hf : ∀ x : Lvl, x.vars.length < 1073741824 → (f x).length ≤ x.vars.length) (c75 : C 75 = fun _ _ => none) (c132 : C 132 = fun _ _ => none) {s : Store} {x : Lvl} {b m : Nat} {h : H} (hb : h.base = 0) (hbn : b < h.next)
    (hg : h.get b = some (.cells (cellsL (storeV s)) 35 false)) (hx : x.vars.length < 1073741824) (hm : x.vars.length + 8 ≤ m) :
    ∃ v, evK TT C (m + 1) (.call (cloV 73 b) [lvlV x] h none) = .ret (.bool v) (h.new (.cells (cellsL (lvlV x)) 86 false)) none := by
  obtain ⟨m, rfl⟩ : ∃ m', m = m' + 1 := ⟨m - 1, by omega⟩
  have q : ¬ b = h.next := by omega
  have hl := hf x hx
  have e74 := fun n m => H74.ev (T := TT) n (x := x) (by show x.vars.length < big; unfold big; omega) m
  have e76 := fun n m => H76.ev (T := TT) n (x := x) hx m
  obtain ⟨v, e75⟩ := run75 c132 c75 (l := f x) (g := 77) (b := b) (m := m) (h0 := h.new (.cells (cellsL (lvlV x)) 86 false)) (by unfold big; omega) (by omega) (q := fun k => decide (s.levels ≤ k)) fun k n => run77 (by simp [hb]) (by simp [q, hg])
  have key : ∃ v, Done TT [.tmp 3] [.bool v] (h.new (.cells (cellsL (lvlV x)) 86 false)) none (runCode TT (evK TT C (m + 1)) ⟨73, none⟩ (Tryz.f73.body.getD .skip) ⟨initT ([lvlV x] ++ [.pointer (some ⟨b, 0, none⟩)]) 0 .nil, [], h, none⟩) := by
    by_cases c1 : (x.vars.length : Int) ≤ 6
    · cases c2 : validB x
      · exact ⟨false, by simp [Tryz.f73, hb, e74, c1, c2]⟩
      · exact ⟨!v, by simp [Tryz.f73, hb, e74, e76, e75, c1, c2]⟩
    · exact ⟨false, by simp [Tryz.f73, hb, c1]⟩
  obtain ⟨v', hd⟩ := key
  refine ⟨v', ?_⟩
  rw [evK_clo, fn_run (vs := [.bool v']) (h2 := h.new (.cells (cellsL (lvlV x)) 86 false)) (ab := none) TT.f73 rfl rfl hd]
  rfl
end Go.Proofs.YtkdfgoimgcegfaaGreatDoor
/- Layer 35: stores in order (law31.Few). -/
namespace Go.Proofs.YtkdfgoimgcegfaaGreatDoor
open Go Go.Am Go.Proofs Go.Am.Sym Go.Am.Eu
set_option maxRecDepth 10000
abbrev st7C : List Value := [sn, sn, sn, sn, sn, sn, sn]
abbrev st7V : Value := .agg ⟨st7C⟩
theorem fa_73_0 (h : H) (b : Nat) : fieldAddrOf TT h 73 0 (some (.pointer (some ⟨b, 0, none⟩))) = .val (.pointer (some ⟨b, 0, none⟩)) h := by kernel_rfl
theorem fa_73_2 (h : H) (b : Nat) : fieldAddrOf TT h 73 2 (some (.pointer (some ⟨b, 0, none⟩))) = .val (.pointer (some ⟨b, 2, none⟩)) h := by kernel_rfl
theorem fa_73_3 (h : H) (b : Nat) : fieldAddrOf TT h 73 3 (some (.pointer (some ⟨b, 0, none⟩))) = .val (.pointer (some ⟨b, 3, none⟩)) h := by kernel_rfl
theorem p51_st : partOf TT 51 st7C 0 = some sn := by kernel_rfl
theorem p22_st2 : partOf TT 22 st7C 2 = some sn := by kernel_rfl
theorem p22_st3 : partOf TT 22 st7C 3 = some sn := by kernel_rfl
noncomputable def f29A : Code := piece Tryz.f29 [true,true,true,false,true,false,false]
noncomputable def f29B : Code := piece Tryz.f29 [true,true,true,true,false,true,false,false]
noncomputable def f29C : Code := piece Tryz.f29 [true,true,true,true,true,false,true,false,false]
theorem f29_split : Tryz.f29.body = some (.seq (piece Tryz.f29 [false]) (.seq (piece Tryz.f29 [true,false]) (.seq (piece Tryz.f29 [true,true,false]) (.seq (.seq (piece Tryz.f29 [true,true,true,false,false]) (.block 0 (.loop f29A))) (.seq (.seq (piece Tryz.f29 [true,true,true,true,false,false]) (.block 2 (.loop f29B))) (.seq (.seq (piece Tryz.f29 [true,true,true,true,true,false,false]) (.block 4 (.loop f29C))) (piece Tryz.f29 [true,true,true,true,true,true]))))))) := rfl
structure SfSt (s : Store) (tm : Tr Value) (h : H) : Prop where
  base : h.base = 0
  next : 1 < h.next
  cell : h.get 1 = some (.cells (cellsL (storeV s)) 35 false)
  t3 : tm.get 3 = some (.pointer (some ⟨1, 0, none⟩))
  t5 : tm.get 5 = some (cloV 73 1)
noncomputable abbrev BoH (h : H) (x : Bound) : H := (h.new (.cells [i64 0, sn, i64 0, sn] 133 false)).put h.next (.cells (cellsL (boundV x)) 133 false)
noncomputable abbrev EqH (h : H) (x : Eqn) : H := (h.new (.cells [sn, i64 0, i64 0, se, sn, sn, i64 0, i64 0, se, sn, sn, .bool false] 130 false)).put h.next (.cells (cellsL (eqnV x)) 130 false)
section
variable {ev : Task → Ans} {s : Store} {i : Nat} {tm : Tr Value} {h : H} (st : SfSt s tm h)
include st
theorem f29A_iter (ta : tm.get 58 = some (boundsV s.bounds)) (tb : tm.get 59 = some (i64 (s.bounds.length : Nat))) (tc : tm.get 60 = some (i64 i)) (hi : i < s.bounds.length) (hw1 : i + 1 ≤ big)
    (hev : ∀ (x : Lvl) (h : H), x = s.bounds[i].low ∨ x = s.bounds[i].high → h.base = 0 → 1 < h.next → h.get 1 = some (.cells (cellsL (storeV s)) 35 false) → ∃ v, ev (.call (cloV 73 1) [lvlV x] h none) = .ret (.bool v) (h.new (.cells (cellsL (lvlV x)) 86 false)) none) :
    EndsAs (fun tm' h' => SfSt s tm' h' ∧ tm'.get 58 = some (boundsV s.bounds) ∧ tm'.get 59 = some (i64 (s.bounds.length : Nat)) ∧ tm'.get 60 = some (i64 (i + 1 : Nat))) (fun tm' _ => ∃ k, tm'.get 4 = some (.bool k)) (fun _ _ _ => False)
      (runCode TT ev ⟨29, none⟩ f29A ⟨tm, [], h, none⟩) := by
  obtain ⟨hb, hn, hc, t3, t5⟩ := st
  have e2 := wrapN hw1
  simp at e2
  have q1 : ¬ 1 = h.next := by omega
  have q2 : ¬ h.next = h.next + 1 := by omega
  have q3 : ¬ 1 = h.next + 1 := by omega
  have q5 : ¬ h.next = 0 := by omega
  have q4 : ¬ 1 = h.next + 1 + 1 := by omega
  obtain ⟨v1, e1⟩ := hev s.bounds[i].low (BoH h s.bounds[i]) (.inl rfl) (by simp [hb]) (by simp; try omega) (by simp [q1, hc])
  obtain ⟨v2, e3⟩ := hev s.bounds[i].high ((BoH h s.bounds[i]).new (.cells (cellsL (lvlV s.bounds[i].low)) 86 false)) (.inr rfl) (by simp [hb]) (by simp; try omega) (by simp [q1, q3, q5, hc])
  cases v1 with
  | false => simp [f29A, piece, sel, sub, Tryz.f29, t3, t5, ta, tb, tc, hb, hi, e2, e1, q1, q2, condK_if]
  | true =>
    cases v2 with
    | false => simp [f29A, piece, sel, sub, Tryz.f29, t3, t5, ta, tb, tc, hb, hi, e2, e1, e3, q1, q2, condK_if]
    | true =>
      simp [f29A, piece, sel, sub, Tryz.f29, t3, t5, ta, tb, tc, hb, hi, e2, e1, e3, q1, q2, condK_if]
      exact ⟨by simp [hb], by simp; try omega, by simp [q1, q3, q4, q5, hc], by simp [t3], by simp [t5]⟩
theorem f29A_end (tb : tm.get 59 = some (i64 (s.bounds.length : Nat))) (tc : tm.get 60 = some (i64 i)) (hi : s.bounds.length ≤ i) :
    EndsAs (fun _ _ => False) (fun _ _ => False) (fun j tm' h' => j = 0 ∧ SfSt s tm' h') (runCode TT ev ⟨29, none⟩ f29A ⟨tm, [], h, none⟩) := by
  obtain ⟨hb, hn, hc, t3, t5⟩ := st
  have hi' : ¬ i < s.bounds.length := by omega
  simp [f29A, piece, sel, sub, Tryz.f29, tb, tc, hi', condK_if]
  exact ⟨hb, hn, hc, by simp [t3], by simp [t5]⟩
theorem f29B_iter (ta : tm.get 78 = some (metasV s.metas)) (tb : tm.get 79 = some (i64 (s.metas.length : Nat))) (tc : tm.get 80 = some (i64 i)) (hi : i < s.metas.length) (hw1 : i + 1 ≤ big)
    (hev : ∀ (x : Term) (h : H), x = s.metas[i].type ∨ x = s.metas[i].value → ∃ v, ev (call0 24 [tv x, i64 0, i64 8, i64 (s.metas.length : Nat), i64 s.levels] h) = .ret (i64 v) h none) :
    EndsAs (fun tm' h' => SfSt s tm' h' ∧ tm'.get 78 = some (metasV s.metas) ∧ tm'.get 79 = some (i64 (s.metas.length : Nat)) ∧ tm'.get 80 = some (i64 (i + 1 : Nat))) (fun tm' _ => ∃ k, tm'.get 4 = some (.bool k)) (fun _ _ _ => False)
      (runCode TT ev ⟨29, none⟩ f29B ⟨tm, [], h, none⟩) := by
  obtain ⟨hb, hn, hc, t3, t5⟩ := st
  have e2 := wrapN hw1
  simp at e2
  have q1 : ¬ 1 = h.next := by omega
  obtain ⟨v1, e1⟩ := hev s.metas[i].type (GdH h s.metas[i]) (.inl rfl)
  obtain ⟨v2, e3⟩ := hev s.metas[i].value (GdH h s.metas[i]) (.inr rfl)
  by_cases c1 : v1 = 0
  · cases hk : s.metas[i].known with
    | false =>
      simp [f29B, piece, sel, sub, Tryz.f29, t3, t5, ta, tb, tc, hb, hn, hc, hi, e2, e1, q1, c1, hk, condK_if]
      exact ⟨by simp [hb], by simp; try omega, by simp [q1, hc], by simp [t3], by simp [t5]⟩
    | true =>
      by_cases c2 : v2 = 0
      · simp [f29B, piece, sel, sub, Tryz.f29, t3, t5, ta, tb, tc, hb, hn, hc, hi, e2, e1, e3, q1, c1, c2, hk, condK_if]
        exact ⟨by simp [hb], by simp; try omega, by simp [q1, hc], by simp [t3], by simp [t5]⟩
      · simp [f29B, piece, sel, sub, Tryz.f29, t3, t5, ta, tb, tc, hb, hn, hc, hi, e2, e1, e3, q1, c1, c2, hk, condK_if]
  · simp [f29B, piece, sel, sub, Tryz.f29, t3, t5, ta, tb, tc, hb, hn, hc, hi, e2, e1, q1, c1, condK_if]
theorem f29B_end (tb : tm.get 79 = some (i64 (s.metas.length : Nat))) (tc : tm.get 80 = some (i64 i)) (hi : s.metas.length ≤ i) :
    EndsAs (fun _ _ => False) (fun _ _ => False) (fun j tm' h' => j = 2 ∧ SfSt s tm' h') (runCode TT ev ⟨29, none⟩ f29B ⟨tm, [], h, none⟩) := by
  obtain ⟨hb, hn, hc, t3, t5⟩ := st
  have hi' : ¬ i < s.metas.length := by omega
  simp [f29B, piece, sel, sub, Tryz.f29, tb, tc, hi', condK_if]
  exact ⟨hb, hn, hc, by simp [t3], by simp [t5]⟩
theorem f29C_iter (ta : tm.get 110 = some (eqnsV s.eqns)) (tb : tm.get 111 = some (i64 (s.eqns.length : Nat))) (tc : tm.get 112 = some (i64 i)) (hi : i < s.eqns.length) (hw1 : i + 1 ≤ big)
    (h31 : ∃ y : H → Bool, ∀ h b, b = h.next → h.base = 0 → ev (call0 31 [metasV s.metas, termsV s.eqns[i].ctx, .slice (some ⟨b, 0, none⟩) 2 2] (h.new (.cells (tc2 s.eqns[i].left s.eqns[i].right) 26 false))) = .ret (.bool (y h)) (h.new (.cells (tc2 s.eqns[i].left s.eqns[i].right) 26 false)) none)
    (h78 : ∀ h, ∃ v, ev (call0 78 [termsV s.eqns[i].ctx, i64 0, i64 8, i64 (s.metas.length : Nat), i64 s.levels] h) = .ret (i64 v) h none)
    (h24 : ∀ (x : Term) (h : H), x = s.eqns[i].left ∨ x = s.eqns[i].right → ∃ v, ev (call0 24 [tv x, i64 (s.eqns[i].ctx.length : Nat), i64 8, i64 (s.metas.length : Nat), i64 s.levels] h) = .ret (i64 v) h none) :
    EndsAs (fun tm' h' => SfSt s tm' h' ∧ tm'.get 110 = some (eqnsV s.eqns) ∧ tm'.get 111 = some (i64 (s.eqns.length : Nat)) ∧ tm'.get 112 = some (i64 (i + 1 : Nat))) (fun tm' _ => ∃ k, tm'.get 4 = some (.bool k)) (fun _ _ _ => False)
      (runCode TT ev ⟨29, none⟩ f29C ⟨tm, [], h, none⟩) := by
  obtain ⟨hb, hn, hc, t3, t5⟩ := st
  have e2 := wrapN hw1
  simp at e2
  have q1 : ¬ 1 = h.next := by omega
  have q2 : ¬ h.next = h.next + 1 := by omega
  have q3 : ¬ 1 = h.next + 1 := by omega
  have q5 : ¬ h.next = 0 := by omega
  obtain ⟨y1, hy1⟩ := h31
  have e1 := hy1 (EqH h s.eqns[i]) (h.next + 1) (by simp) (by simp [hb])
  generalize y1 _ = v1 at e1
  obtain ⟨v2, e3⟩ := h78 ((EqH h s.eqns[i]).new (.cells (tc2 s.eqns[i].left s.eqns[i].right) 26 false))
  obtain ⟨v3, e4⟩ := h24 s.eqns[i].left ((EqH h s.eqns[i]).new (.cells (tc2 s.eqns[i].left s.eqns[i].right) 26 false)) (.inl rfl)
  obtain ⟨v4, e5⟩ := h24 s.eqns[i].right ((EqH h s.eqns[i]).new (.cells (tc2 s.eqns[i].left s.eqns[i].right) 26 false)) (.inr rfl)
  cases v1 with
  | false => simp [f29C, piece, sel, sub, Tryz.f29, t3, t5, ta, tb, tc, hb, hn, hc, hi, e2, e1, q1, q2, q3, q5, condK_if]
  | true =>
    by_cases c2 : v2 = 0
    · by_cases c3 : v3 = 0
      · by_cases c4 : v4 = 0
        · simp [f29C, piece, sel, sub, Tryz.f29, t3, t5, ta, tb, tc, hb, hn, hc, hi, e2, e1, e3, e4, e5, q1, q2, q3, q5, c2, c3, c4, condK_if]
          exact ⟨by simp [hb], by simp; try omega, by simp [q1, q3, q5, hc], by simp [t3], by simp [t5]⟩
        · simp [f29C, piece, sel, sub, Tryz.f29, t3, t5, ta, tb, tc, hb, hn, hc, hi, e2, e1, e3, e4, e5, q1, q2, q3, q5, c2, c3, c4, condK_if]
      · simp [f29C, piece, sel, sub, Tryz.f29, t3, t5, ta, tb, tc, hb, hn, hc, hi, e2, e1, e3, e4, q1, q2, q3, q5, c2, c3, condK_if]
    · simp [f29C, piece, sel, sub, Tryz.f29, t3, t5, ta, tb, tc, hb, hn, hc, hi, e2, e1, e3, q1, q2, q3, q5, c2, condK_if]
theorem f29C_end (tb : tm.get 111 = some (i64 (s.eqns.length : Nat))) (tc : tm.get 112 = some (i64 i)) (hi : s.eqns.length ≤ i) :
    EndsAs (fun _ _ => False) (fun _ _ => False) (fun j tm' h' => j = 4 ∧ SfSt s tm' h') (runCode TT ev ⟨29, none⟩ f29C ⟨tm, [], h, none⟩) := by
  obtain ⟨hb, hn, hc, t3, t5⟩ := st
  have hi' : ¬ i < s.eqns.length := by omega
  simp [f29C, piece, sel, sub, Tryz.f29, tb, tc, hi', condK_if]
  exact ⟨hb, hn, hc, by simp [t3], by simp [t5]⟩
end
end Go.Proofs.YtkdfgoimgcegfaaGreatDoor
/- Layer 35: stores in order (law31.Few): the contract. -/
namespace Go.Proofs.YtkdfgoimgcegfaaGreatDoor
open Go Go.Am Go.Proofs Go.Am.Sym Go.Am.Eu
set_option maxRecDepth 10000
def lim : Nat := 1000000000
def storeOk (s : Store) : Prop := (s.metas.length < lim ∧ ∀ y ∈ s.metas, wt y.type + wt y.value < lim) ∧ (s.eqns.length < lim ∧ ∀ y ∈ s.eqns, wtL y.ctx < lim ∧ wt y.left + wt y.right < lim) ∧
  (s.bounds.length < lim ∧ ∀ y ∈ s.bounds, y.low.vars.length < lim ∧ y.high.vars.length < lim)
theorem few29 : ∃ f : Store → Bool, FnC TT Tryz.prog 29 storeOk (fun s => [st7V, storeV s]) (fun x => .bool (f x)) := by
  obtain ⟨f72, hf72⟩ := good72
  obtain ⟨f31, hf31⟩ := small31
  obtain ⟨f78, hf78⟩ := check78
  obtain ⟨f79, hf79⟩ := acyclic79
  obtain ⟨f76, hf76, hl76⟩ := metas76
  obtain ⟨C, hC, h70, h71, h72, h31, h78, h79, h24, H74, H76, c75, c132⟩ : ∃ C, ConS TT Tryz.prog C ∧ Has C 70 (fun _ : Unit => True) (fun _ => [sn]) (fun _ => .bool true) ∧ Has C 71 (fun _ : Unit => True) (fun _ => [sn]) (fun _ => .bool true) ∧
      HasE C 72 metasOk (fun l => [metasV l]) Value.bool ∧ HasE C 31 SmArg.ok SmArg.enc Value.bool ∧ HasE C 78 (fun x : CcArg => wtL x.c < big ∧ 0 ≤ x.p) CcArg.enc i64 ∧ HasE C 79 acOk (fun l => [metasV l]) Value.bool ∧ HasE C 24 ChArg.okR ChArg.enc i64 ∧
      Has C 74 (fun x : Lvl => x.vars.length < big) (fun x => [lvlV x]) (fun x => .bool (validB x)) ∧ Has C 76 (fun x : Lvl => x.vars.length < 1073741824) (fun x => [lvlV x]) (fun x => intsV (f76 x)) ∧ C 75 = (fun _ _ => none) ∧ C 132 = (fun _ _ => none) := by
    refine ⟨_, addC_sound (addC_sound (addC_sound (addC_sound (addM_sound (addM_sound (addM_sound (addM_sound (addM_sound noC_sound (fun _ => rfl) hf72) (fun _ => rfl) hf31) (fun _ => rfl) hf78) (fun _ => rfl) hf79) (fun _ => rfl) check24R) good70) names71) valid74) hf76, ?_⟩
    refine ⟨.skip (by decide) (.skip (by decide) (.skip (by decide) (.add fun _ _ _ => rfl))), .skip (by decide) (.skip (by decide) (.add fun _ _ _ => rfl)),
      .skip (by decide) (.skip (by decide) (.skip (by decide) (.skip (by decide) (.skip (by decide) (.skip (by decide) (.skip (by decide) (.skip (by decide) .add))))))),
      .skip (by decide) (.skip (by decide) (.skip (by decide) (.skip (by decide) (.skip (by decide) (.skip (by decide) (.skip (by decide) .add)))))),
      .skip (by decide) (.skip (by decide) (.skip (by decide) (.skip (by decide) (.skip (by decide) (.skip (by decide) .add))))),
      .skip (by decide) (.skip (by decide) (.skip (by decide) (.skip (by decide) (.skip (by decide) .add)))),
      .skip (by decide) (.skip (by decide) (.skip (by decide) (.skip (by decide) .add))),
      .skip (by decide) (.add fun x y e => by simp at e; rw [lvlV_inj e]), .add fun x y e => by simp at e; rw [lvlV_inj e], rfl, rfl⟩
  refine fnE Value.bool fun s hx => fnE_ends tok C hC (.cons (.agg (PureL.ground rfl)) (.cons (storeV_pure s) .nil)) (fun _ => .ground rfl) (3000000000 + 1000000100) TT.f29 f29_split rfl ?_
  obtain ⟨⟨m1, m2⟩, ⟨q1, q2⟩, ⟨b1, b2⟩⟩ := hx
  unfold lim at m1 m2 q1 q2 b1 b2
  have e70 := fun n m => h70.ev (T := TT) n (x := ()) trivial m
  have e71 := fun n m => h71.ev (T := TT) n (x := ()) trivial m
  obtain ⟨y72, e72⟩ := h72.data (T := TT) (x := s.metas) ⟨by unfold big; omega, fun y hy => by have := m2 y hy; unfold big; omega⟩ (.cons (metasV_pure _) .nil)
  obtain ⟨y79, e79⟩ := h79.data (T := TT) (x := s.metas) ⟨by unfold big; omega, fun y hy => by have := m2 y hy; omega⟩ (.cons (metasV_pure _) .nil)
  generalize hM : 3000000000 + 1000000100 + 1 = M
  have p0 : EndsAs (fun tm h => h = (H.empty.new (.cells st7C 73 false)).new (.cells (cellsL (storeV s)) 35 false) ∧ tm.get 2 = some (.pointer (some ⟨0, 0, none⟩)) ∧ tm.get 3 = some (.pointer (some ⟨1, 0, none⟩))) (fun _ _ => False) (fun _ _ _ => False) (runCode TT (evK TT C M) ⟨29, none⟩ (piece Tryz.f29 [false]) ⟨initT [st7V, storeV s] 0 .nil, [], H.empty, none⟩) := by
    simp [piece, sel, sub, Tryz.f29]
  have p1 : ∀ tm h, (h = (H.empty.new (.cells st7C 73 false)).new (.cells (cellsL (storeV s)) 35 false) ∧ tm.get 2 = some (.pointer (some ⟨0, 0, none⟩)) ∧ tm.get 3 = some (.pointer (some ⟨1, 0, none⟩))) → EndsAs (fun tm h => h = (H.empty.new (.cells st7C 73 false)).new (.cells (cellsL (storeV s)) 35 false) ∧ tm.get 3 = some (.pointer (some ⟨1, 0, none⟩))) (fun tm _ => ∃ k, tm.get 4 = some (.bool k)) (fun _ _ _ => False)
      (runCode TT (evK TT C M) ⟨29, none⟩ (piece Tryz.f29 [true,false]) ⟨tm, [], h, none⟩) := by
    rintro tm h ⟨rfl, t2, t3⟩
    have e72' := e72 M ((H.empty.new (.cells st7C 73 false)).new (.cells (cellsL (storeV s)) 35 false))
    generalize y72 _ = v72 at e72'
    cases v72 with
    | false => simp [piece, sel, sub, Tryz.f29, t2, t3, fa_73_0, fa_73_2, fa_73_3, p51_st, p22_st2, p22_st3, e70, e71, e72', condK_if]
    | true =>
      by_cases c1 : s.levels < 0
      · simp [piece, sel, sub, Tryz.f29, t2, t3, fa_73_0, fa_73_2, fa_73_3, p51_st, p22_st2, p22_st3, e70, e71, e72', c1, condK_if]
      by_cases c2 : 1000 < s.levels
      · simp [piece, sel, sub, Tryz.f29, t2, t3, fa_73_0, fa_73_2, fa_73_3, p51_st, p22_st2, p22_st3, e70, e71, e72', c1, c2, condK_if]
      by_cases c3 : (3 : Int) < (s.eqns.length : Nat)
      · simp [piece, sel, sub, Tryz.f29, t2, t3, fa_73_0, fa_73_2, fa_73_3, p51_st, p22_st2, p22_st3, e70, e71, e72', c1, c2, c3, condK_if]
      by_cases c4 : (6 : Int) < (s.bounds.length : Nat)
      · simp [piece, sel, sub, Tryz.f29, t2, t3, fa_73_0, fa_73_2, fa_73_3, p51_st, p22_st2, p22_st3, e70, e71, e72', c1, c2, c3, c4, condK_if]
      · simp [piece, sel, sub, Tryz.f29, t2, t3, fa_73_0, fa_73_2, fa_73_3, p51_st, p22_st2, p22_st3, e70, e71, e72', c1, c2, c3, c4, condK_if]
  have p2 : ∀ tm h, (h = (H.empty.new (.cells st7C 73 false)).new (.cells (cellsL (storeV s)) 35 false) ∧ tm.get 3 = some (.pointer (some ⟨1, 0, none⟩))) → EndsAs (fun tm h => SfSt s tm h) (fun _ _ => False) (fun _ _ _ => False) (runCode TT (evK TT C M) ⟨29, none⟩ (piece Tryz.f29 [true,true,false]) ⟨tm, [], h, none⟩) := by
    rintro tm h ⟨rfl, t3⟩
    simp [piece, sel, sub, Tryz.f29, t3]
    exact ⟨by simp, by simp, by simp, by simp [t3], by simp⟩
  have pA : ∀ tm h, SfSt s tm h → EndsAs (fun tm h => SfSt s tm h ∧ tm.get 58 = some (boundsV s.bounds) ∧ tm.get 59 = some (i64 (s.bounds.length : Nat)) ∧ tm.get 60 = some (i64 (0 : Nat))) (fun _ _ => False) (fun _ _ _ => False) (runCode TT (evK TT C M) ⟨29, none⟩ (piece Tryz.f29 [true,true,true,false,false]) ⟨tm, [], h, none⟩) := by
    rintro tm h ⟨hb, hn, hc, t3, t5⟩
    simp [piece, sel, sub, Tryz.f29, t3, hb, hc]
    exact ⟨hb, hn, hc, by simp [t3], by simp [t5]⟩
  have pB : ∀ tm h, SfSt s tm h → EndsAs (fun tm h => SfSt s tm h ∧ tm.get 78 = some (metasV s.metas) ∧ tm.get 79 = some (i64 (s.metas.length : Nat)) ∧ tm.get 80 = some (i64 (0 : Nat))) (fun _ _ => False) (fun _ _ _ => False) (runCode TT (evK TT C M) ⟨29, none⟩ (piece Tryz.f29 [true,true,true,true,false,false]) ⟨tm, [], h, none⟩) := by
    rintro tm h ⟨hb, hn, hc, t3, t5⟩
    simp [piece, sel, sub, Tryz.f29, t3, hb, hc]
    exact ⟨hb, hn, hc, by simp [t3], by simp [t5]⟩
  have pC : ∀ tm h, SfSt s tm h → EndsAs (fun tm h => SfSt s tm h ∧ tm.get 110 = some (eqnsV s.eqns) ∧ tm.get 111 = some (i64 (s.eqns.length : Nat)) ∧ tm.get 112 = some (i64 (0 : Nat))) (fun _ _ => False) (fun _ _ _ => False) (runCode TT (evK TT C M) ⟨29, none⟩ (piece Tryz.f29 [true,true,true,true,true,false,false]) ⟨tm, [], h, none⟩) := by
    rintro tm h ⟨hb, hn, hc, t3, t5⟩
    simp [piece, sel, sub, Tryz.f29, t3, hb, hc]
    exact ⟨hb, hn, hc, by simp [t3], by simp [t5]⟩
  refine ends_seqC (p0.mono (fun _ _ q => q) (fun _ _ q => q.elim) (fun _ _ _ q => q)) fun tm h q => ends_seqC (p1 tm h q) fun tm h q => ends_seqC ((p2 tm h q).mono (fun _ _ q => q) (fun _ _ q => q.elim) (fun _ _ _ q => q)) fun tm h q =>
    ends_seqC (N' := fun tm h => SfSt s tm h) (ends_seqC ((pA tm h q).mono (fun _ _ q => q) (fun _ _ q => q.elim) (fun _ _ _ q => q)) fun tm h q => ?_) fun tm h q =>
    ends_seqC (N' := fun tm h => SfSt s tm h) (ends_seqC ((pB tm h q).mono (fun _ _ q => q) (fun _ _ q => q.elim) (fun _ _ _ q => q)) fun tm h q => ?_) fun tm h q =>
    ends_seqC (N' := fun tm h => SfSt s tm h) (ends_seqC ((pC tm h q).mono (fun _ _ q => q) (fun _ _ q => q.elim) (fun _ _ _ q => q)) fun tm h q => ?_) fun tm h q => ?_
  · obtain ⟨st, ta, tb, tc⟩ := q
    refine ends_loop 1000000100 (fun j tm h => ∃ i, j = s.bounds.length - i ∧ i ≤ s.bounds.length ∧ SfSt s tm h ∧ tm.get 58 = some (boundsV s.bounds) ∧ tm.get 59 = some (i64 (s.bounds.length : Nat)) ∧ tm.get 60 = some (i64 (i : Nat))) s.bounds.length ⟨0, rfl, by omega, st, ta, tb, tc⟩ (by omega) ?_
    rintro j tm h m ⟨i, rfl, hi, st, ta, tb, tc⟩ hm
    by_cases hlt : i < s.bounds.length
    · have hw := b2 s.bounds[i] (List.getElem_mem hlt)
      obtain ⟨m, rfl⟩ : ∃ m', m = m' + 1 := ⟨m - 1, by omega⟩
      refine (f29A_iter st ta tb tc hlt (by unfold big; omega) fun x h hx hb hn hg => ?_).mono (fun tm' h' q => ⟨_, by omega, i + 1, rfl, hlt, q⟩) (fun tm' h' q => q) (fun _ _ _ q => q.elim)
      have hxx : x.vars.length < 1000000000 := by rcases hx with rfl | rfl <;> omega
      exact run73 H74 H76 hl76 c75 c132 hb hn hg (by omega) (by omega)
    · exact (f29A_end st tb tc (by omega)).mono (fun _ _ q => q.elim) (fun _ _ q => q.elim) (fun _ _ _ q => q)
  · obtain ⟨st, ta, tb, tc⟩ := q
    refine ends_loop 0 (fun j tm h => ∃ i, j = s.metas.length - i ∧ i ≤ s.metas.length ∧ SfSt s tm h ∧ tm.get 78 = some (metasV s.metas) ∧ tm.get 79 = some (i64 (s.metas.length : Nat)) ∧ tm.get 80 = some (i64 (i : Nat))) s.metas.length ⟨0, rfl, by omega, st, ta, tb, tc⟩ (by omega) ?_
    rintro j tm h m ⟨i, rfl, hi, st, ta, tb, tc⟩ -
    by_cases hlt : i < s.metas.length
    · have hw := m2 s.metas[i] (List.getElem_mem hlt)
      refine (f29B_iter st ta tb tc hlt (by unfold big; omega) fun x h hx => ?_).mono (fun tm' h' q => ⟨_, by omega, i + 1, rfl, hlt, q⟩) (fun tm' h' q => q) (fun _ _ _ q => q.elim)
      have hxx : wt x < big := by unfold big; rcases hx with rfl | rfl <;> omega
      obtain ⟨y, hy⟩ := h24.data (T := TT) (x := ⟨x, 0, 8, (s.metas.length : Nat), s.levels⟩) ⟨hxx, by show (0 : Int) ≤ 0; decide, by show (0 : Int) ≤ 8; decide⟩ (ChArg.enc_pure _)
      exact ⟨y h, hy m h⟩
    · exact (f29B_end st tb tc (by omega)).mono (fun _ _ q => q.elim) (fun _ _ q => q.elim) (fun _ _ _ q => q)
  · obtain ⟨st, ta, tb, tc⟩ := q
    refine ends_loop 0 (fun j tm h => ∃ i, j = s.eqns.length - i ∧ i ≤ s.eqns.length ∧ SfSt s tm h ∧ tm.get 110 = some (eqnsV s.eqns) ∧ tm.get 111 = some (i64 (s.eqns.length : Nat)) ∧ tm.get 112 = some (i64 (i : Nat))) s.eqns.length ⟨0, rfl, by omega, st, ta, tb, tc⟩ (by omega) ?_
    rintro j tm h m ⟨i, rfl, hi, st, ta, tb, tc⟩ -
    by_cases hlt : i < s.eqns.length
    · have hw := q2 s.eqns[i] (List.getElem_mem hlt)
      have hwc : wtL s.eqns[i].ctx < big := by unfold big; omega
      refine (f29C_iter st ta tb tc hlt (by unfold big; omega) ?_ ?_ ?_).mono (fun tm' h' q => ⟨_, by omega, i + 1, rfl, hlt, q⟩) (fun tm' h' q => q) (fun _ _ _ q => q.elim)
      · obtain ⟨y, hy⟩ := mem_terms h31 (x := ⟨s.metas, s.eqns[i].ctx, [s.eqns[i].left, s.eqns[i].right]⟩) ⟨hwc, by show wtL [_, _] < big; rw [wtL_two]; unfold big; omega⟩ (ps := [metasV s.metas, termsV s.eqns[i].ctx]) (qs := []) (l := [s.eqns[i].left, s.eqns[i].right]) rfl (.cons (metasV_pure _) (.cons (termsV_pure _) .nil)) .nil
        rw [flat2] at hy
        exact ⟨y, hy m⟩
      · intro h
        obtain ⟨y, hy⟩ := h78.data (T := TT) (x := ⟨s.eqns[i].ctx, 8, (s.metas.length : Nat), s.levels⟩) ⟨hwc, by show (0 : Int) ≤ 8; decide⟩ (CcArg.enc_pure _)
        exact ⟨y h, hy m h⟩
      · intro x h hx
        have hxx : wt x < big := by unfold big; rcases hx with rfl | rfl <;> omega
        obtain ⟨y, hy⟩ := h24.data (T := TT) (x := ⟨x, (s.eqns[i].ctx.length : Nat), 8, (s.metas.length : Nat), s.levels⟩) ⟨hxx, by show (0 : Int) ≤ (s.eqns[i].ctx.length : Nat); omega, by show (0 : Int) ≤ 8; decide⟩ (ChArg.enc_pure _)
        exact ⟨y h, hy m h⟩
    · exact (f29C_end st tb tc (by omega)).mono (fun _ _ q => q.elim) (fun _ _ q => q.elim) (fun _ _ _ q => q)
  · obtain ⟨hb, hn, hc, t3, t5⟩ := q
    simp [piece, sel, sub, Tryz.f29, t3, hb, hc, e79]
end Go.Proofs.YtkdfgoimgcegfaaGreatDoor
/- Layer 35: proof states in order (law35.Few): it answers. -/
namespace Go.Proofs.YtkdfgoimgcegfaaGreatDoor
open Go Go.Am Go.Proofs Go.Am.Sym Go.Am.Eu
set_option maxRecDepth 10000
theorem TT.f12 : TT.func 12 = some Tryz.f12 := by kernel_rfl
theorem p31_proof1 (x : Proof) : partOf TT 31 (cellsL (proofV x)) 1 = some (metasV x.store.metas) := by rw [p31]; rfl
theorem p3_proof4 (x : Proof) : partOf TT 3 (cellsL (proofV x)) 4 = some (i64 x.store.levels) := by rw [p3]; rfl
theorem build73 (h : H) : buildOf TT h 73 (zero TT 73) (some [(0, sn)]) = .val st7V h := by kernel_rfl
def goalLim (g : Goal) : Prop := g.names.length < lim ∧ wtL g.ctx + wt g.target < lim
def proofOk (p : Proof) : Prop := p.levels.length < lim ∧ storeOk p.store ∧ (p.goals.length < lim ∧ ∀ g ∈ p.goals, goalLim g) ∧ wt p.type < lim ∧ wt p.root < lim
noncomputable def f12B : Code := piece Tryz.f12 [true,true,true,false,true,false,false]
theorem f12_split : Tryz.f12.body = some (.seq (piece Tryz.f12 [false]) (.seq (piece Tryz.f12 [true,false]) (.seq (piece Tryz.f12 [true,true,false]) (.seq (.seq (piece Tryz.f12 [true,true,true,false,false]) (.block 0 (.loop f12B))) (piece Tryz.f12 [true,true,true,true]))))) := rfl
structure PfSt (p : Proof) (tm : Tr Value) (h : H) : Prop where
  base : h.base = 0
  next : 0 < h.next
  cell : h.get 0 = some (.cells (cellsL (proofV p)) 38 false)
  t3 : tm.get 3 = some (.pointer (some ⟨0, 0, none⟩))
  t5 : tm.get 5 = some (metasV p.store.metas)
section
variable {ev : Task → Ans} {p : Proof} {i : Nat} {tm : Tr Value} {h : H} (st : PfSt p tm h)
include st
theorem f12_iter (ta : tm.get 39 = some (goalsV p.goals)) (tb : tm.get 40 = some (i64 (p.goals.length : Nat))) (tc : tm.get 41 = some (i64 i)) (hi : i < p.goals.length) (hw1 : i + 1 ≤ big) :
    EndsAs (fun tm' h' => PfSt p tm' h' ∧ tm'.get 39 = some (goalsV p.goals) ∧ tm'.get 40 = some (i64 (p.goals.length : Nat)) ∧ tm'.get 41 = some (i64 (i + 1 : Nat))) (fun tm' _ => ∃ k, tm'.get 4 = some (.bool k)) (fun _ _ _ => False)
      (runCode TT ev ⟨12, none⟩ f12B ⟨tm, [], h, none⟩) := by
  obtain ⟨hb, hn, hc, t3, t5⟩ := st
  have e2 := wrapN hw1
  simp at e2
  have q1 : ¬ 0 = h.next := by omega
  by_cases c1 : (p.goals[i].names.length : Int) = (p.goals[i].ctx.length : Nat)
  · by_cases c2 : p.goals[i].mid < 0
    · simp [f12B, piece, sel, sub, Tryz.f12, t3, t5, ta, tb, tc, hb, hn, hc, hi, e2, q1, c1, c2, condK_if]
    · by_cases c3 : ((p.store.metas.length : Nat) : Int) ≤ p.goals[i].mid
      · simp [f12B, piece, sel, sub, Tryz.f12, t3, t5, ta, tb, tc, hb, hn, hc, hi, e2, q1, c1, c2, c3, condK_if]
      · simp [f12B, piece, sel, sub, Tryz.f12, t3, t5, ta, tb, tc, hb, hn, hc, hi, e2, q1, c1, c2, c3, condK_if]
        exact ⟨by simp [hb], by simp, by simp [q1, hc], by simp [t3], by simp [t5]⟩
  · have c1' : ¬ p.goals[i].names.length = p.goals[i].ctx.length := fun e => c1 (by rw [e])
    simp [f12B, piece, sel, sub, Tryz.f12, t3, t5, ta, tb, tc, hb, hn, hc, hi, e2, q1, c1, c1', condK_if]
theorem f12_end (tb : tm.get 40 = some (i64 (p.goals.length : Nat))) (tc : tm.get 41 = some (i64 i)) (hi : p.goals.length ≤ i) :
    EndsAs (fun _ _ => False) (fun _ _ => False) (fun j tm' h' => j = 0 ∧ PfSt p tm' h') (runCode TT ev ⟨12, none⟩ f12B ⟨tm, [], h, none⟩) := by
  obtain ⟨hb, hn, hc, t3, t5⟩ := st
  have hi' : ¬ i < p.goals.length := by omega
  simp [f12B, piece, sel, sub, Tryz.f12, tb, tc, hi', condK_if]
  exact ⟨hb, hn, hc, by simp [t3], by simp [t5]⟩
theorem f12_last (h31 : ∃ v, ev (call0 31 [metasV p.store.metas, sn, .slice (some ⟨h.next, 0, none⟩) 1 1] (h.new (.cells (cellsL (tv p.root)) 26 false))) = .ret (.bool v) (h.new (.cells (cellsL (tv p.root)) 26 false)) none)
    (h31' : ∃ v, ev (call0 31 [sn, sn, .slice (some ⟨h.next + 1, 0, none⟩) 1 1] ((h.new (.cells (cellsL (tv p.root)) 26 false)).new (.cells (cellsL (tv p.type)) 26 false))) = .ret (.bool v) ((h.new (.cells (cellsL (tv p.root)) 26 false)).new (.cells (cellsL (tv p.type)) 26 false)) none)
    (h24 : ∀ h, ∃ v, ev (call0 24 [tv p.root, i64 0, i64 8, i64 (p.store.metas.length : Nat), i64 p.store.levels] h) = .ret (i64 v) h none) (h24' : ∀ h, ∃ v, ev (call0 24 [tv p.type, i64 0, i64 8, i64 0, i64 0] h) = .ret (i64 v) h none) :
    EndsAs (fun _ _ => False) (fun tm' _ => ∃ k, tm'.get 4 = some (.bool k)) (fun _ _ _ => False) (runCode TT ev ⟨12, none⟩ (piece Tryz.f12 [true,true,true,true]) ⟨tm, [], h, none⟩) := by
  obtain ⟨hb, hn, hc, t3, t5⟩ := st
  have q1 : ¬ 0 = h.next := by omega
  have q2 : ¬ 0 = h.next + 1 := by omega
  obtain ⟨v1, e1⟩ := h31
  obtain ⟨v2, e2⟩ := h31'
  obtain ⟨v3, e3⟩ := h24 (h.new (.cells (cellsL (tv p.root)) 26 false))
  obtain ⟨v4, e4⟩ := h24' ((h.new (.cells (cellsL (tv p.root)) 26 false)).new (.cells (cellsL (tv p.type)) 26 false))
  cases v1 with
  | false => simp [piece, sel, sub, Tryz.f12, t3, t5, hb, hn, hc, q1, q2, e1, p31_proof1, p3_proof4, condK_if]
  | true =>
    by_cases c3 : v3 = 0
    · cases v2 with
      | false => simp [piece, sel, sub, Tryz.f12, t3, t5, hb, hn, hc, q1, q2, e1, e2, e3, c3, p31_proof1, p3_proof4, condK_if]
      | true =>
        by_cases c4 : v4 = 0
        · simp [piece, sel, sub, Tryz.f12, t3, t5, hb, hn, hc, q1, q2, e1, e2, e3, e4, c3, c4, p31_proof1, p3_proof4, condK_if]
        · simp [piece, sel, sub, Tryz.f12, t3, t5, hb, hn, hc, q1, q2, e1, e2, e3, e4, c3, c4, p31_proof1, p3_proof4, condK_if]
    · simp [piece, sel, sub, Tryz.f12, t3, t5, hb, hn, hc, q1, q2, e1, e3, c3, p31_proof1, p3_proof4, condK_if]
end
theorem few12 : ∃ f : Proof → Bool, FnC TT Tryz.prog 12 proofOk (fun p => [sn, proofV p]) (fun x => .bool (f x)) := by
  obtain ⟨f5, hf5⟩ := contains5G long28
  obtain ⟨f29, hf29⟩ := few29
  obtain ⟨f30, hf30⟩ := scope30
  obtain ⟨f31, hf31⟩ := small31
  obtain ⟨C, hC, h5, h29, h30, h31, h24⟩ : ∃ C, ConS TT Tryz.prog C ∧ HasE C 5 (fun l : List ByteArray => l.length < big) (fun l => [strsV l, fnV 28]) Value.bool ∧ HasE C 29 storeOk (fun s => [st7V, storeV s]) Value.bool ∧
      HasE C 30 (fun x : IsArg => goalsOk x.l) IsArg.enc Value.bool ∧ HasE C 31 SmArg.ok SmArg.enc Value.bool ∧ HasE C 24 ChArg.okR ChArg.enc i64 :=
    ⟨_, addM_sound (addM_sound (addM_sound (addM_sound (addM_sound noC_sound (fun _ => rfl) hf5) (fun _ => rfl) hf29) (fun _ => rfl) hf30) (fun _ => rfl) hf31) (fun _ => rfl) check24R,
      .skip (by decide) (.skip (by decide) (.skip (by decide) (.skip (by decide) .add))), .skip (by decide) (.skip (by decide) (.skip (by decide) .add)), .skip (by decide) (.skip (by decide) .add), .skip (by decide) .add, .add⟩
  refine fnE Value.bool fun p hx => fnE_ends tok C hC (.cons (.ground rfl) (.cons (proofV_pure p) .nil)) (fun _ => .ground rfl) 1000000100 TT.f12 f12_split rfl ?_
  obtain ⟨l1, ⟨l2, ⟨g1, g2⟩, w1, w2⟩⟩ := hx
  have hg : goalsOk p.goals := ⟨by unfold lim at g1; unfold big; omega, fun g hg => by
    obtain ⟨a, b⟩ := g2 g hg
    unfold lim at a b
    exact ⟨by unfold big; omega, by unfold big; omega, by unfold big; omega⟩⟩
  unfold lim at l1 g1 w1 w2
  have wr : wt p.root < big := by unfold big; omega
  have wy : wt p.type < big := by unfold big; omega
  have lb : p.levels.length < big := by unfold big; omega
  obtain ⟨y5, e5⟩ := h5.data (T := TT) (x := p.levels) lb (.cons (strsV_pure _) (.cons (.func _ .nil .nil) .nil))
  obtain ⟨y29, e29⟩ := h29.data (T := TT) (x := p.store) l2 (.cons (.agg (PureL.ground rfl)) (.cons (storeV_pure _) .nil))
  obtain ⟨y30, e30⟩ := h30.data (T := TT) (x := ⟨p.store.metas, p.store.levels, p.goals⟩) hg (IsArg.enc_pure _)
  simp only [IsArg.enc] at e30
  generalize hM : 1000000100 + 1 = M
  have p0 : EndsAs (fun tm h => h = H.empty.new (.cells (cellsL (proofV p)) 38 false) ∧ tm.get 0 = some sn ∧ tm.get 3 = some (.pointer (some ⟨0, 0, none⟩))) (fun _ _ => False) (fun _ _ _ => False) (runCode TT (evK TT C M) ⟨12, none⟩ (piece Tryz.f12 [false]) ⟨initT [sn, proofV p] 0 .nil, [], H.empty, none⟩) := by
    simp [piece, sel, sub, Tryz.f12]
  have p1 : ∀ tm h, (h = H.empty.new (.cells (cellsL (proofV p)) 38 false) ∧ tm.get 0 = some sn ∧ tm.get 3 = some (.pointer (some ⟨0, 0, none⟩))) → EndsAs (fun tm h => h = H.empty.new (.cells (cellsL (proofV p)) 38 false) ∧ tm.get 0 = some sn ∧ tm.get 3 = some (.pointer (some ⟨0, 0, none⟩)) ∧ tm.get 5 = some (metasV p.store.metas)) (fun _ _ => False) (fun _ _ _ => False)
      (runCode TT (evK TT C M) ⟨12, none⟩ (piece Tryz.f12 [true,false]) ⟨tm, [], h, none⟩) := by
    rintro tm h ⟨rfl, t0, t3⟩
    simp [piece, sel, sub, Tryz.f12, t0, t3, p31_proof1]
  have p2 : ∀ tm h, (h = H.empty.new (.cells (cellsL (proofV p)) 38 false) ∧ tm.get 0 = some sn ∧ tm.get 3 = some (.pointer (some ⟨0, 0, none⟩)) ∧ tm.get 5 = some (metasV p.store.metas)) → EndsAs (fun tm h => PfSt p tm h) (fun tm _ => ∃ k, tm.get 4 = some (.bool k)) (fun _ _ _ => False)
      (runCode TT (evK TT C M) ⟨12, none⟩ (piece Tryz.f12 [true,true,false]) ⟨tm, [], h, none⟩) := by
    rintro tm h ⟨rfl, t0, t3, t5⟩
    have e5' := e5 M (H.empty.new (.cells (cellsL (proofV p)) 38 false))
    have e29' := e29 M (H.empty.new (.cells (cellsL (proofV p)) 38 false))
    have e30' := e30 M (H.empty.new (.cells (cellsL (proofV p)) 38 false))
    generalize y5 _ = v5 at e5'
    generalize y29 _ = v29 at e29'
    generalize y30 _ = v30 at e30'
    by_cases c1 : (8 : Int) < (p.levels.length : Nat)
    · simp [piece, sel, sub, Tryz.f12, t0, t3, t5, c1, p31_proof1, p3_proof4, condK_if]
    cases v5 with
    | true => simp [piece, sel, sub, Tryz.f12, t0, t3, t5, c1, e5', p31_proof1, p3_proof4, condK_if]
    | false =>
      cases v29 with
      | false => simp [piece, sel, sub, Tryz.f12, t0, t3, t5, c1, e5', e29', build73, p31_proof1, p3_proof4, condK_if]
      | true =>
        cases v30 with
        | false => simp [piece, sel, sub, Tryz.f12, t0, t3, t5, c1, e5', e29', e30', build73, p31_proof1, p3_proof4, condK_if]
        | true =>
          simp [piece, sel, sub, Tryz.f12, t0, t3, t5, c1, e5', e29', e30', build73, p31_proof1, p3_proof4, condK_if]
          exact ⟨by simp, by simp, by simp, by simp [t3], by simp [t5]⟩
  have p3 : ∀ tm h, PfSt p tm h → EndsAs (fun tm h => PfSt p tm h ∧ tm.get 39 = some (goalsV p.goals) ∧ tm.get 40 = some (i64 (p.goals.length : Nat)) ∧ tm.get 41 = some (i64 (0 : Nat))) (fun _ _ => False) (fun _ _ _ => False) (runCode TT (evK TT C M) ⟨12, none⟩ (piece Tryz.f12 [true,true,true,false,false]) ⟨tm, [], h, none⟩) := by
    rintro tm h ⟨hb, hn, hc, t3, t5⟩
    simp [piece, sel, sub, Tryz.f12, t3, hb, hc]
    exact ⟨hb, hn, hc, by simp [t3], by simp [t5]⟩
  refine ends_seqC (p0.mono (fun _ _ q => q) (fun _ _ q => q.elim) (fun _ _ _ q => q)) fun tm h q => ends_seqC ((p1 tm h q).mono (fun _ _ q => q) (fun _ _ q => q.elim) (fun _ _ _ q => q)) fun tm h q => ends_seqC (p2 tm h q) fun tm h q =>
    ends_seqC (N' := fun tm h => PfSt p tm h) (ends_seqC ((p3 tm h q).mono (fun _ _ q => q) (fun _ _ q => q.elim) (fun _ _ _ q => q)) fun tm h q => ?_) fun tm h q => ?_
  · obtain ⟨st, ta, tb, tc⟩ := q
    refine ends_loop 0 (fun j tm h => ∃ i, j = p.goals.length - i ∧ i ≤ p.goals.length ∧ PfSt p tm h ∧ tm.get 39 = some (goalsV p.goals) ∧ tm.get 40 = some (i64 (p.goals.length : Nat)) ∧ tm.get 41 = some (i64 (i : Nat))) p.goals.length ⟨0, rfl, by omega, st, ta, tb, tc⟩ (by omega) ?_
    rintro j tm h m ⟨i, rfl, hi, st, ta, tb, tc⟩ -
    by_cases hlt : i < p.goals.length
    · exact (f12_iter st ta tb tc hlt (by unfold big; omega)).mono (fun tm' h' q => ⟨_, by omega, i + 1, rfl, hlt, q⟩) (fun tm' h' q => q) (fun _ _ _ q => q.elim)
    · exact (f12_end st tb tc (by omega)).mono (fun _ _ q => q.elim) (fun _ _ q => q.elim) (fun _ _ _ q => q)
  · have hb := q.base
    refine (f12_last q ?_ ?_ ?_ ?_).mono (fun _ _ q => q.elim) (fun _ _ q => q) (fun _ _ _ q => q.elim)
    · obtain ⟨y, hy⟩ := h31.ev (T := TT) (x := ⟨p.store.metas, [], [p.root]⟩) ⟨by show (0 : Nat) < big; unfold big; omega, by show wtL [_] < big; rw [wtL_one]; exact wr⟩ (args := [metasV p.store.metas, sn, .slice (some ⟨h.next, 0, none⟩) 1 1]) (m := h.new (.cells (cellsL (tv p.root)) 26 false))
        (.cons (.pure (metasV_pure _)) (.cons .slice0 (.cons (dat_terms (l := [p.root]) (by rw [flat1]; simp [lowG, hb])) .nil)))
      exact ⟨y, hy M⟩
    · obtain ⟨y, hy⟩ := h31.ev (T := TT) (x := ⟨[], [], [p.type]⟩) ⟨by show (0 : Nat) < big; unfold big; omega, by show wtL [_] < big; rw [wtL_one]; exact wy⟩ (args := [sn, sn, .slice (some ⟨h.next + 1, 0, none⟩) 1 1]) (m := (h.new (.cells (cellsL (tv p.root)) 26 false)).new (.cells (cellsL (tv p.type)) 26 false))
        (.cons .slice0 (.cons .slice0 (.cons (dat_terms (l := [p.type]) (by rw [flat1]; simp [lowG, hb])) .nil)))
      exact ⟨y, hy M⟩
    · intro h
      obtain ⟨y, hy⟩ := h24.data (T := TT) (x := ⟨p.root, 0, 8, (p.store.metas.length : Nat), p.store.levels⟩) ⟨wr, by show (0 : Int) ≤ 0; decide, by show (0 : Int) ≤ 8; decide⟩ (ChArg.enc_pure _)
      exact ⟨y h, hy M h⟩
    · intro h
      obtain ⟨y, hy⟩ := h24.data (T := TT) (x := ⟨p.type, 0, 8, 0, 0⟩) ⟨wy, by show (0 : Int) ≤ 0; decide, by show (0 : Int) ≤ 8; decide⟩ (ChArg.enc_pure _)
      exact ⟨y h, hy M h⟩
end Go.Proofs.YtkdfgoimgcegfaaGreatDoor
