/- Layer 35: the error of a level, exactly, in the program's text. -/
import Derived.Test.YtkdfgoimgcegfaaGreatDoorE35f
import Derived.Test.YtkdfgoimgcegfaaGreatDoorC35
set_option linter.unusedSectionVars false
set_option linter.unusedSimpArgs false
set_option linter.unusedVariables false
namespace Go.Proofs.YtkdfgoimgcegfaaGreatDoor
open Go Go.Am Go.Proofs Go.Am.Sym Go.Am.Eu
set_option maxRecDepth 10000
/-- A scope. -/
structure Scope where
  v : Int
  p : Int
  m : Int
  l : Int
def scC (s : Scope) : List Value := [i64 s.v, i64 s.p, i64 s.m, i64 s.l]
def scV (s : Scope) : Value := .agg ⟨scC s⟩
theorem scV_inj {x y : Scope} (h : scV x = scV y) : x = y := by
  cases x; cases y; simp [scV, scC] at h; simp [h]
theorem scV_pure (s : Scope) : PureV (scV s) := .agg (PureL.ground rfl)
@[simp] theorem cells_sc (s : Scope) : cellsL (scV s) = scC s := rfl
theorem s121 : Am.size TT 121 = some 4 := by kernel_rfl
theorem agg121 : Am.isAgg TT 121 = some true := by kernel_rfl
@[simp] theorem p121_sc (s : Scope) : partOf TT 121 (scC s) 0 = some (scV s) := by rw [part_agg agg121 s121]; rfl
@[simp] theorem p3_sc0 (s : Scope) : partOf TT 3 (scC s) 0 = some (i64 s.v) := by rw [p3]; rfl
@[simp] theorem p3_sc1 (s : Scope) : partOf TT 3 (scC s) 1 = some (i64 s.p) := by rw [p3]; rfl
@[simp] theorem p3_sc2 (s : Scope) : partOf TT 3 (scC s) 2 = some (i64 s.m) := by rw [p3]; rfl
@[simp] theorem p3_sc3 (s : Scope) : partOf TT 3 (scC s) 3 = some (i64 s.l) := by rw [p3]; rfl
@[simp] theorem fa_121_0 (h : H) (b o : Nat) : fieldAddrOf TT h 121 0 (some (.pointer (some ⟨b, o, none⟩))) = .val (.pointer (some ⟨b, o + 0, none⟩)) h := by kernel_rfl
@[simp] theorem fa_121_1 (h : H) (b o : Nat) : fieldAddrOf TT h 121 1 (some (.pointer (some ⟨b, o, none⟩))) = .val (.pointer (some ⟨b, o + 1, none⟩)) h := by kernel_rfl
@[simp] theorem fa_121_2 (h : H) (b o : Nat) : fieldAddrOf TT h 121 2 (some (.pointer (some ⟨b, o, none⟩))) = .val (.pointer (some ⟨b, o + 2, none⟩)) h := by kernel_rfl
@[simp] theorem fa_121_3 (h : H) (b o : Nat) : fieldAddrOf TT h 121 3 (some (.pointer (some ⟨b, o, none⟩))) = .val (.pointer (some ⟨b, o + 3, none⟩)) h := by kernel_rfl
noncomputable def f124B0 : Code := piece Tryz.f124 [true,true,false,true,false,false]
noncomputable def f124B2 : Code := piece Tryz.f124 [true,true,true,false,true,false,false]
theorem f124_split : Tryz.f124.body = some (.seq (piece Tryz.f124 [false]) (.seq (piece Tryz.f124 [true,false]) (.seq (.seq (piece Tryz.f124 [true,true,false,false]) (.block 0 (.loop f124B0))) (.seq (.seq (piece Tryz.f124 [true,true,true,false,false]) (.block 2 (.loop f124B2))) (piece Tryz.f124 [true,true,true,true]))))) := rfl
structure LfSt (x : Lvl) (s : Scope) (tm : Tr Value) (h : H) : Prop where
  base : h.base = 0
  next : 2 ≤ h.next
  c0 : h.get 0 = some (.cells (scC s) 121 false)
  c1 : h.get 1 = some (.cells (cellsL (lvlV x)) 86 false)
  t2 : tm.get 2 = some (.pointer (some ⟨0, 0, none⟩))
  t3 : tm.get 3 = some (.pointer (some ⟨1, 0, none⟩))
section
variable {ev : Task → Ans} {x : Lvl} {s : Scope} {i : Nat} {tm : Tr Value} {h : H} (st : LfSt x s tm h)
include st
theorem f124_iter0 (ta : tm.get 13 = some (lvarsV x.vars)) (tb : tm.get 14 = some (i64 (x.vars.length : Nat))) (tc : tm.get 15 = some (i64 i)) (hi : i < x.vars.length) (hw1 : i + 1 ≤ big) :
    EndsAs (fun tm' h' => ¬ over1 s.p x.vars[i] ∧ LfSt x s tm' h' ∧ tm'.get 13 = some (lvarsV x.vars) ∧ tm'.get 14 = some (i64 (x.vars.length : Nat)) ∧ tm'.get 15 = some (i64 (i + 1 : Nat))) (fun tm' _ => over1 s.p x.vars[i] ∧ tm'.get 4 = some (i64 15)) (fun _ _ _ => False)
      (runCode TT ev ⟨124, none⟩ f124B0 ⟨tm, [], h, none⟩) := by
  obtain ⟨hb, hn, c0, c1, t2, t3⟩ := st
  have e2 := wrapN hw1
  simp at e2
  have n0 : ¬ h.next = 0 := by omega
  have n1 : ¬ h.next = 1 := by omega
  have n0' : ¬ 0 = h.next := by omega
  have n1' : ¬ 1 = h.next := by omega
  by_cases c : s.p ≤ x.vars[i].index
  · simp [f124B0, piece, sel, sub, Tryz.f124, t2, t3, ta, tb, tc, hb, c0, c1, n0, n1, n0', n1', hi, e2, condK_if, c, over1]
  · simp [f124B0, piece, sel, sub, Tryz.f124, t2, t3, ta, tb, tc, hb, c0, c1, n0, n1, n0', n1', hi, e2, condK_if, c, over1]
    exact ⟨by simp [hb], by simp; omega, by simp [n0', c0], by simp [n1', c1], by simp [t2], by simp [t3]⟩
theorem f124_end0 (tb : tm.get 14 = some (i64 (x.vars.length : Nat))) (tc : tm.get 15 = some (i64 i)) (hi : x.vars.length ≤ i) :
    EndsAs (fun _ _ => False) (fun _ _ => False) (fun j tm' h' => j = 0 ∧ LfSt x s tm' h') (runCode TT ev ⟨124, none⟩ f124B0 ⟨tm, [], h, none⟩) := by
  obtain ⟨hb, hn, c0, c1, t2, t3⟩ := st
  have hi' : ¬ i < x.vars.length := by omega
  simp [f124B0, piece, sel, sub, Tryz.f124, tb, tc, hi', condK_if]
  exact ⟨hb, hn, c0, c1, by simp [t2], by simp [t3]⟩
theorem f124_iter2 (ta : tm.get 26 = some (lvarsV x.vars)) (tb : tm.get 27 = some (i64 (x.vars.length : Nat))) (tc : tm.get 28 = some (i64 i)) (hi : i < x.vars.length) (hw1 : i + 1 ≤ big) :
    EndsAs (fun tm' h' => ¬ over2 s.l x.vars[i] ∧ LfSt x s tm' h' ∧ tm'.get 26 = some (lvarsV x.vars) ∧ tm'.get 27 = some (i64 (x.vars.length : Nat)) ∧ tm'.get 28 = some (i64 (i + 1 : Nat))) (fun tm' _ => over2 s.l x.vars[i] ∧ tm'.get 4 = some (i64 23)) (fun _ _ _ => False)
      (runCode TT ev ⟨124, none⟩ f124B2 ⟨tm, [], h, none⟩) := by
  obtain ⟨hb, hn, c0, c1, t2, t3⟩ := st
  have e2 := wrapN hw1
  simp at e2
  have n0 : ¬ h.next = 0 := by omega
  have n1 : ¬ h.next = 1 := by omega
  have n0' : ¬ 0 = h.next := by omega
  have n1' : ¬ 1 = h.next := by omega
  by_cases cc : x.vars[i].index < 0
  · by_cases c : s.l ≤ IntKind.i64.wrap (-1 - x.vars[i].index)
    · simp [f124B2, piece, sel, sub, Tryz.f124, t2, t3, ta, tb, tc, hb, c0, c1, n0, n1, n0', n1', hi, e2, condK_if, c, cc, over2]
    · simp [f124B2, piece, sel, sub, Tryz.f124, t2, t3, ta, tb, tc, hb, c0, c1, n0, n1, n0', n1', hi, e2, condK_if, c, cc, over2]
      exact ⟨by simp [hb], by simp; omega, by simp [n0', c0], by simp [n1', c1], by simp [t2], by simp [t3]⟩
  · simp [f124B2, piece, sel, sub, Tryz.f124, t2, t3, ta, tb, tc, hb, c0, c1, n0, n1, n0', n1', hi, e2, condK_if, cc, over2]
    exact ⟨by simp [hb], by simp; omega, by simp [n0', c0], by simp [n1', c1], by simp [t2], by simp [t3]⟩
theorem f124_end2 (tb : tm.get 27 = some (i64 (x.vars.length : Nat))) (tc : tm.get 28 = some (i64 i)) (hi : x.vars.length ≤ i) :
    EndsAs (fun _ _ => False) (fun _ _ => False) (fun j tm' h' => j = 2) (runCode TT ev ⟨124, none⟩ f124B2 ⟨tm, [], h, none⟩) := by
  have hi' : ¬ i < x.vars.length := by omega
  simp [f124B2, piece, sel, sub, Tryz.f124, tb, tc, hi', condK_if]
end
structure LgArg where
  s : Scope
  x : Lvl
theorem level124 : FnC TT Tryz.prog 124 (fun y : LgArg => y.x.vars.length < big) (fun y => [scV y.s, lvlV y.x]) (fun y => i64 (levelE y.s.p y.s.l y.x)) := by
  obtain ⟨C, hC, hH⟩ : ∃ C, ConS TT Tryz.prog C ∧ Has C 171 (fun x : Lvl => x.vars.length < big) (fun x => [lvlV x]) (fun x => .bool (validB x)) :=
    ⟨_, addC_sound noC_sound valid171, Has.add fun x y e => by simp at e; rw [lvlV_inj e]⟩
  rintro ⟨s, x⟩ hx
  have hx : x.vars.length < big := hx
  have hev := fun n m => hH.ev (T := TT) n (x := x) hx m
  refine fnX_ends (v := i64 (levelE s.p s.l x)) tok C hC (.cons (scV_pure s) (.cons (lvlV_pure x) .nil)) (.ground rfl) (x.vars.length + 1) TT.f124 f124_split rfl ?_
  have p0 : EndsAs (fun tm h => LfSt x s tm h) (fun _ _ => False) (fun _ _ _ => False) (runCode TT (evK TT C (x.vars.length + 1 + 1)) ⟨124, none⟩ (piece Tryz.f124 [false]) ⟨initT [scV s, lvlV x] 0 .nil, [], H.empty, none⟩) := by
    simp [piece, sel, sub, Tryz.f124]
    exact ⟨by simp, by simp, by simp, by simp, by simp, by simp⟩
  have p1 : ∀ tm h, LfSt x s tm h → EndsAs (fun tm h => validP x ∧ LfSt x s tm h) (fun tm _ => tm.get 4 = some (i64 (levelE s.p s.l x))) (fun _ _ _ => False) (runCode TT (evK TT C (x.vars.length + 1 + 1)) ⟨124, none⟩ (piece Tryz.f124 [true,false]) ⟨tm, [], h, none⟩) := by
    rintro tm h ⟨hb, hn, c0, c1, t2, t3⟩
    cases hv : validB x with
    | false =>
      rw [levelE_3 hv]
      simp [piece, sel, sub, Tryz.f124, t2, t3, hb, c0, c1, hev, hv]
    | true =>
      simp [piece, sel, sub, Tryz.f124, t2, t3, hb, c0, c1, hev, hv]
      exact ⟨validP_of hv, hb, hn, c0, c1, by simp [t2], by simp [t3]⟩
  have p2 : ∀ tm h, validP x ∧ LfSt x s tm h → EndsAs (fun tm h => validP x ∧ LfSt x s tm h ∧ tm.get 13 = some (lvarsV x.vars) ∧ tm.get 14 = some (i64 (x.vars.length : Nat)) ∧ tm.get 15 = some (i64 (0 : Nat))) (fun _ _ => False) (fun _ _ _ => False) (runCode TT (evK TT C (x.vars.length + 1 + 1)) ⟨124, none⟩ (piece Tryz.f124 [true,true,false,false]) ⟨tm, [], h, none⟩) := by
    rintro tm h ⟨hv, hb, hn, c0, c1, t2, t3⟩
    simp [piece, sel, sub, Tryz.f124, t2, t3, hb, c0, c1, hv]
    exact ⟨hb, hn, c0, c1, by simp [t2], by simp [t3]⟩
  have p3 : ∀ tm h, LfSt x s tm h → EndsAs (fun tm h => LfSt x s tm h ∧ tm.get 26 = some (lvarsV x.vars) ∧ tm.get 27 = some (i64 (x.vars.length : Nat)) ∧ tm.get 28 = some (i64 (0 : Nat))) (fun _ _ => False) (fun _ _ _ => False) (runCode TT (evK TT C (x.vars.length + 1 + 1)) ⟨124, none⟩ (piece Tryz.f124 [true,true,true,false,false]) ⟨tm, [], h, none⟩) := by
    rintro tm h ⟨hb, hn, c0, c1, t2, t3⟩
    simp [piece, sel, sub, Tryz.f124, t2, t3, hb, c0, c1]
    exact ⟨hb, hn, c0, c1, by simp [t2], by simp [t3]⟩
  refine ends_seqC (p0.mono (fun _ _ q => q) (fun _ _ q => q.elim) (fun _ _ _ q => q)) fun tm h q => ends_seqC (p1 tm h q) fun tm h q =>
    ends_seqC (N' := fun tm h => validP x ∧ (∀ v ∈ x.vars, ¬ over1 s.p v) ∧ LfSt x s tm h) (ends_seqC ((p2 tm h q).mono (fun _ _ q => q) (fun _ _ q => q.elim) (fun _ _ _ q => q)) fun tm h q => ?_) fun tm h q =>
    ends_seqC (N' := fun tm h => levelE s.p s.l x = 0) (ends_seqC ((p3 tm h q.2.2).mono (fun _ _ q => q) (fun _ _ q => q.elim) (fun _ _ _ q => q)) fun tm h q' => ?_) fun tm h q => ?_
  · obtain ⟨hv, st, ta, tb, tc⟩ := q
    refine ends_loop 0 (fun j tm h => ∃ i : Nat, j = x.vars.length - i ∧ i ≤ x.vars.length ∧ LfSt x s tm h ∧ (tm.get 13 = some (lvarsV x.vars) ∧ tm.get 14 = some (i64 (x.vars.length : Nat)) ∧ tm.get 15 = some (i64 i)) ∧ ∀ k (hk : k < x.vars.length), k < i → ¬ over1 s.p x.vars[k]) x.vars.length ⟨0, by omega, by omega, st, ⟨ta, tb, tc⟩, fun k _ hk => by omega⟩ (by omega) ?_
    rintro j tm h m ⟨i, rfl, hi, st, ⟨ta, tb, tc⟩, hall⟩ -
    by_cases hlt : i < x.vars.length
    · refine (f124_iter0 st ta tb tc hlt (by omega)).mono (fun tm' h' q => ⟨_, by omega, i + 1, rfl, hlt, q.2.1, q.2.2, fun k hk hki => ?_⟩) (fun tm' _ q => ?_) (fun _ _ _ q => q.elim)
      · by_cases e : k = i
        · subst e; exact q.1
        · exact hall k hk (by omega)
      · rw [q.2, levelE_15 hv (List.getElem_mem hlt) q.1]
    · exact (f124_end0 st tb tc (by omega)).mono (fun _ _ q => q.elim) (fun _ _ q => q.elim) (fun _ _ _ q => ⟨q.1, hv, all_of fun k hk => hall k hk (by omega), q.2⟩)
  · obtain ⟨hv, h1, _⟩ := q
    obtain ⟨st, ta, tb, tc⟩ := q'
    refine ends_loop 0 (fun j tm h => ∃ i : Nat, j = x.vars.length - i ∧ i ≤ x.vars.length ∧ LfSt x s tm h ∧ (tm.get 26 = some (lvarsV x.vars) ∧ tm.get 27 = some (i64 (x.vars.length : Nat)) ∧ tm.get 28 = some (i64 i)) ∧ ∀ k (hk : k < x.vars.length), k < i → ¬ over2 s.l x.vars[k]) x.vars.length ⟨0, by omega, by omega, st, ⟨ta, tb, tc⟩, fun k _ hk => by omega⟩ (by omega) ?_
    rintro j tm h m ⟨i, rfl, hi, st, ⟨ta, tb, tc⟩, hall⟩ -
    by_cases hlt : i < x.vars.length
    · refine (f124_iter2 st ta tb tc hlt (by omega)).mono (fun tm' h' q => ⟨_, by omega, i + 1, rfl, hlt, q.2.1, q.2.2, fun k hk hki => ?_⟩) (fun tm' _ q => ?_) (fun _ _ _ q => q.elim)
      · by_cases e : k = i
        · subst e; exact q.1
        · exact hall k hk (by omega)
      · rw [q.2, levelE_23 hv h1 (List.getElem_mem hlt) q.1]
    · exact (f124_end2 st tb tc (by omega)).mono (fun _ _ q => q.elim) (fun _ _ q => q.elim) (fun _ _ _ q => ⟨q, levelE_0 hv h1 (all_of fun k hk => hall k hk (by omega))⟩)
  · rw [q]
    simp [piece, sel, sub, Tryz.f124]
end Go.Proofs.YtkdfgoimgcegfaaGreatDoor
/- Layer 35: the error of a node, exactly, in the program's text. -/
namespace Go.Am.Eu
theorem levelsE_drop {p l : Int} {ls : List Lvl} {i : Nat} (hi : i < ls.length) : levelsE p l (ls.drop i) = if levelE p l ls[i] ≠ 0 then levelE p l ls[i] else levelsE p l (ls.drop (i + 1)) := by
  rw [List.drop_eq_getElem_cons hi, levelsE]
theorem levelsE_end {p l : Int} {ls : List Lvl} {i : Nat} (hi : ls.length ≤ i) : levelsE p l (ls.drop i) = 0 := by
  rw [List.drop_eq_nil_of_le hi, levelsE]
end Go.Am.Eu
namespace Go.Proofs.YtkdfgoimgcegfaaGreatDoor
open Go Go.Am Go.Proofs Go.Am.Sym Go.Am.Eu
set_option maxRecDepth 10000
theorem TT.f62 : TT.func 62 = some Tryz.f62 := by kernel_rfl
noncomputable def f62B : Code := piece Tryz.f62 [true,true,true,false,true,false,false]
theorem f62_split : Tryz.f62.body = some (.seq (piece Tryz.f62 [false]) (.seq (piece Tryz.f62 [true,false]) (.seq (piece Tryz.f62 [true,true,false]) (.seq (.seq (piece Tryz.f62 [true,true,true,false,false]) (.block 0 (.loop f62B))) (.seq (piece Tryz.f62 [true,true,true,true,false]) (piece Tryz.f62 [true,true,true,true,true])))))) := rfl
structure NoSt (s : Scope) (t : Term) (d : Nat) (tm : Tr Value) (h : H) : Prop where
  base : h.base = 0
  next : 2 ≤ h.next
  c0 : h.get 0 = some (.cells (scC s) 121 false)
  c1 : h.get 1 = some (.cells (cellsL (tv t)) 26 false)
  t2 : tm.get 2 = some (i64 (d : Nat))
  t3 : tm.get 3 = some (.pointer (some ⟨0, 0, none⟩))
  t4 : tm.get 4 = some (.pointer (some ⟨1, 0, none⟩))
@[simp] theorem z86 : zero TT 86 = some (.agg ⟨[i64 0, .slice none 0 0]⟩) := by kernel_rfl
@[simp] theorem store86 {h : H} {b : Nat} (x : Lvl) : storeAt TT h 86 (lvlV x) (.pointer (some ⟨b, 0, none⟩)) = storeIn h b 0 (cellsL (lvlV x)) (h.get b) := by
  show onB none (storeIn h b 0 (cellsL (lvlV x)) (h.get b)) (fits (cellsL (lvlV x)) (Am.size TT 86)) = _
  rw [s86]; rfl
@[simp] theorem storeIn_lvl (h : H) (b : Nat) (x : Lvl) (u w : Value) (e : TypeId) (g : Bool) : storeIn h b 0 (cellsL (lvlV x)) (some (.cells [u, w] e g)) = some (h.put b (.cells (cellsL (lvlV x)) e g)) := rfl
section
variable {ev : Task → Ans} {s : Scope} {t : Term} {d i : Nat} {tm : Tr Value} {h : H}
theorem f62_p0 : EndsAs (fun tm h => NoSt s t d tm h) (fun _ _ => False) (fun _ _ _ => False) (runCode TT ev ⟨62, none⟩ (piece Tryz.f62 [false]) ⟨initT [scV s, tv t, i64 (d : Nat)] 0 .nil, [], H.empty, none⟩) := by
  simp [piece, sel, sub, Tryz.f62]
  exact ⟨by simp, by simp, by simp, by simp, by simp, by simp, by simp⟩
variable (st : NoSt s t d tm h)
include st
theorem f62_p1 (hev : ∀ h, ev (call0 122 [tv t] h) = .ret (.bool (formB t)) h none) :
    EndsAs (fun tm h => formB t = true ∧ NoSt s t d tm h) (fun tm _ => formB t = false ∧ tm.get 6 = some (i64 3)) (fun _ _ _ => False) (runCode TT ev ⟨62, none⟩ (piece Tryz.f62 [true,false]) ⟨tm, [], h, none⟩) := by
  obtain ⟨hb, hn, c0, c1, t2, t3, t4⟩ := st
  cases hf : formB t
  · simp [piece, sel, sub, Tryz.f62, t2, t3, t4, hb, c1, hev, hf]
  · simp [piece, sel, sub, Tryz.f62, t2, t3, t4, hb, c1, hev, hf]
    exact ⟨hb, hn, c0, c1, by simp [t2], by simp [t3], by simp [t4]⟩
theorem f62_p2 (hev : ∀ h, ev (call0 123 [.string t.name] h) = .ret (.bool (nameB t.name)) h none) :
    EndsAs (fun tm h => ¬ (t.kind = 3 ∧ nameB t.name = false) ∧ ¬ (t.kind = 3 ∧ 8 < t.levels.length) ∧ NoSt s t d tm h)
      (fun tm _ => (t.kind = 3 ∧ nameB t.name = false ∧ tm.get 6 = some (i64 29)) ∨ (¬ (t.kind = 3 ∧ nameB t.name = false) ∧ t.kind = 3 ∧ 8 < t.levels.length ∧ tm.get 6 = some (i64 6))) (fun _ _ _ => False) (runCode TT ev ⟨62, none⟩ (piece Tryz.f62 [true,true,false]) ⟨tm, [], h, none⟩) := by
  obtain ⟨hb, hn, c0, c1, t2, t3, t4⟩ := st
  have e8 : (8 < (t.levels.length : Int)) = (8 < t.levels.length) := by apply propext; omega
  by_cases hk : t.kind = 3
  · cases hf : nameB t.name
    · simp [piece, sel, sub, Tryz.f62, t2, t3, t4, hb, c1, hev, hf, hk]
    · by_cases h8 : 8 < t.levels.length
      · simp [piece, sel, sub, Tryz.f62, t2, t3, t4, hb, c1, hev, hf, hk, h8, e8]
      · simp [piece, sel, sub, Tryz.f62, t2, t3, t4, hb, c1, hev, hf, hk, h8, e8]
        exact ⟨hb, hn, c0, c1, by simp [t2], by simp [t3], by simp [t4]⟩
  · simp [piece, sel, sub, Tryz.f62, t2, t3, t4, hb, c1, hev, hk]
    exact ⟨hb, hn, c0, c1, by simp [t2], by simp [t3], by simp [t4]⟩
theorem f62_p3 : EndsAs (fun tm h => NoSt s t d tm h ∧ tm.get 25 = some (lvlsV t.levels) ∧ tm.get 26 = some (i64 (t.levels.length : Nat)) ∧ tm.get 27 = some (i64 (0 : Nat))) (fun _ _ => False) (fun _ _ _ => False) (runCode TT ev ⟨62, none⟩ (piece Tryz.f62 [true,true,true,false,false]) ⟨tm, [], h, none⟩) := by
  obtain ⟨hb, hn, c0, c1, t2, t3, t4⟩ := st
  simp [piece, sel, sub, Tryz.f62, t2, t3, t4, hb, c1]
  exact ⟨hb, hn, c0, c1, by simp [t2], by simp [t3], by simp [t4]⟩
theorem f62_iter (hev : ∀ x ∈ t.levels, ∀ h, ev (call0 124 [scV s, lvlV x] h) = .ret (i64 (levelE s.p s.l x)) h none) (ta : tm.get 25 = some (lvlsV t.levels)) (tb : tm.get 26 = some (i64 (t.levels.length : Nat))) (tc : tm.get 27 = some (i64 i)) (hi : i < t.levels.length) (hw1 : i + 1 ≤ big) :
    EndsAs (fun tm' h' => levelE s.p s.l t.levels[i] = 0 ∧ NoSt s t d tm' h' ∧ tm'.get 25 = some (lvlsV t.levels) ∧ tm'.get 26 = some (i64 (t.levels.length : Nat)) ∧ tm'.get 27 = some (i64 (i + 1 : Nat))) (fun tm' _ => levelE s.p s.l t.levels[i] ≠ 0 ∧ tm'.get 6 = some (i64 (levelE s.p s.l t.levels[i]))) (fun _ _ _ => False)
      (runCode TT ev ⟨62, none⟩ f62B ⟨tm, [], h, none⟩) := by
  obtain ⟨hb, hn, c0, c1, t2, t3, t4⟩ := st
  have e2 := wrapN hw1
  simp at e2
  have n0 : ¬ h.next = 0 := by omega
  have n1 : ¬ h.next = 1 := by omega
  have n0' : ¬ 0 = h.next := by omega
  have n1' : ¬ 1 = h.next := by omega
  have he := hev t.levels[i] (List.getElem_mem hi)
  by_cases c : levelE s.p s.l t.levels[i] = 0
  · simp [f62B, piece, sel, sub, Tryz.f62, t2, t3, t4, ta, tb, tc, hb, c0, c1, n0, n1, n0', n1', hi, e2, he, c]
    exact ⟨by simp [hb], by simp; omega, by simp [n0', c0], by simp [n1', c1], by simp [t2], by simp [t3], by simp [t4]⟩
  · simp [f62B, piece, sel, sub, Tryz.f62, t2, t3, t4, ta, tb, tc, hb, c0, c1, n0, n1, n0', n1', hi, e2, he, c]
theorem f62_end (tb : tm.get 26 = some (i64 (t.levels.length : Nat))) (tc : tm.get 27 = some (i64 i)) (hi : t.levels.length ≤ i) :
    EndsAs (fun _ _ => False) (fun _ _ => False) (fun j tm' h' => j = 0 ∧ NoSt s t d tm' h') (runCode TT ev ⟨62, none⟩ f62B ⟨tm, [], h, none⟩) := by
  obtain ⟨hb, hn, c0, c1, t2, t3, t4⟩ := st
  have hi' : ¬ i < t.levels.length := by omega
  simp [f62B, piece, sel, sub, Tryz.f62, tb, tc, hi']
  exact ⟨hb, hn, c0, c1, by simp [t2], by simp [t3], by simp [t4]⟩
theorem f62_p4 : EndsAs (fun tm h => ¬ (t.kind = 0 ∧ (t.index < 0 ∨ s.v ≤ w64 (t.index - d))) ∧ ¬ (t.kind = 12 ∧ (t.index < 0 ∨ s.m ≤ t.index)))
    (fun tm _ => ((t.kind = 0 ∧ (t.index < 0 ∨ s.v ≤ w64 (t.index - d))) ∧ tm.get 6 = some (i64 24)) ∨ (¬ (t.kind = 0 ∧ (t.index < 0 ∨ s.v ≤ w64 (t.index - d))) ∧ (t.kind = 12 ∧ (t.index < 0 ∨ s.m ≤ t.index)) ∧ tm.get 6 = some (i64 23))) (fun _ _ _ => False) (runCode TT ev ⟨62, none⟩ (piece Tryz.f62 [true,true,true,true,false]) ⟨tm, [], h, none⟩) := by
  obtain ⟨hb, hn, c0, c1, t2, t3, t4⟩ := st
  by_cases k0 : t.kind = 0
  · by_cases i0 : t.index < 0
    · simp [piece, sel, sub, Tryz.f62, t2, t3, t4, hb, c0, c1, k0, i0]
    · by_cases hv : s.v ≤ IntKind.i64.wrap (t.index - d)
      · simp [piece, sel, sub, Tryz.f62, t2, t3, t4, hb, c0, c1, k0, i0, hv]
      · simp [piece, sel, sub, Tryz.f62, t2, t3, t4, hb, c0, c1, k0, i0, hv]
        try omega
  · by_cases k12 : t.kind = 12
    · by_cases i0 : t.index < 0
      · simp [piece, sel, sub, Tryz.f62, t2, t3, t4, hb, c0, c1, k0, k12, i0]
      · by_cases hv : s.m ≤ t.index
        · simp [piece, sel, sub, Tryz.f62, t2, t3, t4, hb, c0, c1, k0, k12, i0, hv]
        · simp [piece, sel, sub, Tryz.f62, t2, t3, t4, hb, c0, c1, k0, k12, i0, hv]
          try omega
    · simp [piece, sel, sub, Tryz.f62, t2, t3, t4, hb, c0, c1, k0, k12]
end
structure NoArg where
  s : Scope
  t : Term
  d : Nat
theorem node62 : FnC TT Tryz.prog 62 (fun y : NoArg => wt y.t < big) (fun y => [scV y.s, tv y.t, i64 (y.d : Nat)]) (fun y => i64 (nodeE y.s.v y.s.p y.s.m y.s.l y.d y.t)) := by
  obtain ⟨C, hC, hH1, hH2, hH3⟩ : ∃ C, ConS TT Tryz.prog C ∧ Has C 122 (fun _ : Term => True) (fun t => [tv t]) (fun t => .bool (formB t)) ∧ Has C 123 (fun s : ByteArray => s.size < big) (fun s => [.string s]) (fun s => .bool (nameB s)) ∧
      Has C 124 (fun y : LgArg => y.x.vars.length < big) (fun y => [scV y.s, lvlV y.x]) (fun y => i64 (levelE y.s.p y.s.l y.x)) :=
    ⟨_, addC_sound (addC_sound (addC_sound noC_sound fits122) name123) level124,
      .skip (by decide) (.skip (by decide) (.add fun x y e => by simp at e; rw [tv_inj e])),
      .skip (by decide) (.add fun x y e => by simp at e; rw [e]),
      .add fun x y e => by
        obtain ⟨x1, x2⟩ := x; obtain ⟨y1, y2⟩ := y
        simp at e; rw [scV_inj e.1, lvlV_inj e.2]⟩
  rintro ⟨s, t, d⟩ ht
  have ht : wt t < big := ht
  have hl := wt_levels t
  have hnm : t.name.size < big := by have := wt_eq t; omega
  have e1 := fun n m => hH1.ev (T := TT) n (x := t) trivial m
  have e2 := fun n m => hH2.ev (T := TT) n (x := t.name) hnm m
  have e3 := fun n (x : Lvl) (hx : x ∈ t.levels) m => hH3.ev (T := TT) n (x := ⟨s, x⟩) (by have := wt_level hx; show x.vars.length < big; omega) m
  refine fnX_ends (v := i64 (nodeE s.v s.p s.m s.l d t)) tok C hC (.cons (scV_pure s) (.cons (tv_pure t) (.cons (.ground rfl) .nil))) (.ground rfl) (t.levels.length + 1) TT.f62 f62_split rfl ?_
  refine ends_seqC (f62_p0.mono (fun _ _ q => q) (fun _ _ q => q.elim) (fun _ _ _ q => q)) fun tm h st => ends_seqC ((f62_p1 st (e1 _)).mono (fun _ _ q => q) (fun tm _ q => ?_) (fun _ _ _ q => q)) fun tm h q1 =>
    ends_seqC ((f62_p2 q1.2 (e2 _)).mono (fun _ _ q => q) (fun tm _ q => ?_) (fun _ _ _ q => q)) fun tm h q2 =>
    ends_seqC (N' := fun tm h => levelsE s.p s.l t.levels = 0 ∧ NoSt s t d tm h) (ends_seqC ((f62_p3 q2.2.2).mono (fun _ _ q => q) (fun _ _ q => q.elim) (fun _ _ _ q => q)) fun tm h q => ?_) fun tm h q3 =>
    ends_seqC ((f62_p4 q3.2).mono (fun _ _ q => q) (fun tm _ q => ?_) (fun _ _ _ q => q)) fun tm h q4 => ?_
  · have hf : nodeE s.v s.p s.m s.l d t = 3 := by unfold nodeE; rw [if_pos q.1]
    rw [q.2, hf]
  · have hf1 : ¬ formB t = false := by rw [q1.1]; simp
    rcases q with ⟨a, b, c⟩ | ⟨a, b, c, e⟩
    · have hf : nodeE s.v s.p s.m s.l d t = 29 := by unfold nodeE; rw [if_neg hf1, if_pos ⟨a, b⟩]
      rw [c, hf]
    · have hf : nodeE s.v s.p s.m s.l d t = 6 := by unfold nodeE; rw [if_neg hf1, if_neg a, if_pos ⟨b, c⟩]
      rw [e, hf]
  · obtain ⟨st, ta, tb, tc⟩ := q
    refine ends_loop 0 (fun j tm h => ∃ i : Nat, j = t.levels.length - i ∧ i ≤ t.levels.length ∧ NoSt s t d tm h ∧ (tm.get 25 = some (lvlsV t.levels) ∧ tm.get 26 = some (i64 (t.levels.length : Nat)) ∧ tm.get 27 = some (i64 i)) ∧ levelsE s.p s.l t.levels = levelsE s.p s.l (t.levels.drop i)) t.levels.length ⟨0, by omega, by omega, st, ⟨ta, tb, tc⟩, by rw [List.drop_zero]⟩ (by omega) ?_
    rintro j tm h m ⟨i, rfl, hi, st, ⟨ta, tb, tc⟩, hall⟩ -
    by_cases hlt : i < t.levels.length
    · refine (f62_iter st (e3 m) ta tb tc hlt (by omega)).mono (fun tm' h' q => ⟨_, by omega, i + 1, rfl, hlt, q.2.1, q.2.2, ?_⟩) (fun tm' _ q => ?_) (fun _ _ _ q => q.elim)
      · rw [hall, levelsE_drop hlt, if_neg (by simp [q.1])]
      · have hl : levelsE s.p s.l t.levels = levelE s.p s.l t.levels[i] := by rw [hall, levelsE_drop hlt, if_pos q.1]
        have hf1 : ¬ formB t = false := by rw [q1.1]; simp
        have hf : nodeE s.v s.p s.m s.l d t = levelE s.p s.l t.levels[i] := by unfold nodeE; rw [if_neg hf1, if_neg q2.1, if_neg q2.2.1, hl, if_pos q.1]
        rw [q.2, hf]
    · refine (f62_end st tb tc (by omega)).mono (fun _ _ q => q.elim) (fun _ _ q => q.elim) (fun _ _ _ q => ⟨q.1, ?_, q.2⟩)
      rw [hall, levelsE_end (by omega)]
  · have hf1 : ¬ formB t = false := by rw [q1.1]; simp
    have h3 : ¬ levelsE s.p s.l t.levels ≠ 0 := fun h => h q3.1
    rcases q with ⟨a, c⟩ | ⟨a, b, e⟩
    · have hf : nodeE s.v s.p s.m s.l d t = 24 := by unfold nodeE; rw [if_neg hf1, if_neg q2.1, if_neg q2.2.1, if_neg h3, if_pos a]
      rw [c, hf]
    · have hf : nodeE s.v s.p s.m s.l d t = 23 := by unfold nodeE; rw [if_neg hf1, if_neg q2.1, if_neg q2.2.1, if_neg h3, if_neg a, if_pos b]
      rw [e, hf]
  · have hf1 : ¬ formB t = false := by rw [q1.1]; simp
    have h3 : ¬ levelsE s.p s.l t.levels ≠ 0 := fun h => h q3.1
    have hf : nodeE s.v s.p s.m s.l d t = 0 := by unfold nodeE; rw [if_neg hf1, if_neg q2.1, if_neg q2.2.1, if_neg h3, if_neg q4.1, if_neg q4.2]
    rw [hf]
    simp [piece, sel, sub, Tryz.f62]
end Go.Proofs.YtkdfgoimgcegfaaGreatDoor
