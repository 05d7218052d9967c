/- Layer 35: valid levels, exactly (the program's text), whole. -/
import Derived.Test.YtkdfgoimgcegfaaGreatDoorE35d
set_option linter.unusedSectionVars false
set_option linter.unusedSimpArgs false
set_option linter.unusedVariables false
namespace Go.Proofs.YtkdfgoimgcegfaaGreatDoor
open Go Go.Am Go.Proofs Go.Am.Sym Go.Am.Eu
set_option maxRecDepth 10000
noncomputable def f171B : Code := piece Tryz.f171 [true,true,false,true,false,false]
theorem f171_split : Tryz.f171.body = some (.seq (piece Tryz.f171 [false]) (.seq (piece Tryz.f171 [true,false]) (.seq (.seq (piece Tryz.f171 [true,true,false,false]) (.block 0 (.loop f171B))) (piece Tryz.f171 [true,true,true])))) := rfl
structure LwSt (x : Lvl) (i : Nat) (tm : Tr Value) (h : H) : Prop where
  base : h.base = 0
  next : 0 < h.next
  cell : h.get 0 = some (.cells (cellsL (lvlV x)) 86 false)
  t1 : tm.get 1 = some (.pointer (some ⟨0, 0, none⟩))
  t23 : tm.get 23 = some (lvarsV x.vars)
  t24 : tm.get 24 = some (i64 (x.vars.length : Nat))
  t25 : tm.get 25 = some (i64 i)
/-- What the loop asks of a variable. -/
def varQ (x : Lvl) (i : Nat) (h : i < x.vars.length) : Prop :=
  (-65536 ≤ x.vars[i].index ∧ x.vars[i].index ≤ 7) ∧ (0 ≤ x.vars[i].plus ∧ x.vars[i].plus ≤ 100) ∧ (0 < i → (x.vars[i - 1]'(by omega)).index < x.vars[i].index)
section
variable {ev : Task → Ans} {x : Lvl} {i : Nat} {tm : Tr Value} {h : H}
theorem f171_iter (st : LwSt x i tm h) (hi : i < x.vars.length) (hw1 : i + 1 ≤ big) :
    EndsAs (fun tm' h' => varQ x i hi ∧ LwSt x (i + 1) tm' h') (fun tm' _ => tm'.get 2 = some (.bool false) ∧ ¬ varQ x i hi) (fun _ _ _ => False)
      (runCode TT ev ⟨171, none⟩ f171B ⟨tm, [], h, none⟩) := by
  obtain ⟨hb, hn, h0, t1, t23, t24, t25⟩ := st
  have e2 := wrapN hw1
  simp at e2
  have hne : h.next ≠ 0 := by omega
  have key := fun k => wrap_pred (i := i) k (by omega)
  have hlt : i - 1 < x.vars.length := by omega
  have fin : ∀ tm' h', h'.base = 0 → 0 < h'.next → h'.get 0 = some (.cells (cellsL (lvlV x)) 86 false) → tm'.get 1 = some (.pointer (some ⟨0, 0, none⟩)) → tm'.get 23 = some (lvarsV x.vars) → tm'.get 24 = some (i64 (x.vars.length : Nat)) → tm'.get 25 = some (i64 ((i : Int) + 1)) → LwSt x (i + 1) tm' h' := fun tm' h' a b c d e f g => ⟨a, b, c, d, e, f, g⟩
  by_cases hpos : 0 < i
  all_goals
    by_cases c1 : x.vars[i].index < -65536
    · simp +contextual [f171B, piece, sel, sub, Tryz.f171, t1, t23, t24, t25, h0, hb, hn, hne, hne.symm, hi, e2, condK_if, c1]
      intro hv; unfold varQ at hv; omega
    by_cases c2 : 7 < x.vars[i].index
    · simp +contextual [f171B, piece, sel, sub, Tryz.f171, t1, t23, t24, t25, h0, hb, hn, hne, hne.symm, hi, e2, condK_if, c1, c2]
      intro hv; unfold varQ at hv; omega
    by_cases c3 : x.vars[i].plus < 0
    · simp +contextual [f171B, piece, sel, sub, Tryz.f171, t1, t23, t24, t25, h0, hb, hn, hne, hne.symm, hi, e2, condK_if, c1, c2, c3]
      intro hv; unfold varQ at hv; omega
    by_cases c4 : 100 < x.vars[i].plus
    · simp +contextual [f171B, piece, sel, sub, Tryz.f171, t1, t23, t24, t25, h0, hb, hn, hne, hne.symm, hi, e2, condK_if, c1, c2, c3, c4]
      intro hv; unfold varQ at hv; omega
    first
      | (have key := key hpos
         by_cases c5 : x.vars[i].index ≤ x.vars[i - 1].index
         · simp +contextual [f171B, piece, sel, sub, Tryz.f171, t1, t23, t24, t25, h0, hb, hn, hne, hne.symm, hi, e2, condK_if, c1, c2, c3, c4, c5, hpos, key, hlt]
           intro hv; unfold varQ at hv; omega)
      | skip
    simp +contextual [f171B, piece, sel, sub, Tryz.f171, t1, t23, t24, t25, h0, hb, hn, hne, hne.symm, hi, e2, condK_if, c1, c2, c3, c4, hpos, key, hlt, *]
    unfold varQ; omega
theorem f171_end (st : LwSt x i tm h) (hi : x.vars.length ≤ i) :
    EndsAs (fun _ _ => False) (fun _ _ => False) (fun j _ _ => j = 0) (runCode TT ev ⟨171, none⟩ f171B ⟨tm, [], h, none⟩) := by
  obtain ⟨hb, hn, h0, t1, t23, t24, t25⟩ := st
  have hi' : ¬ i < x.vars.length := by omega
  simp +contextual [f171B, piece, sel, sub, Tryz.f171, t1, t24, t25, hi', condK_if]
end
theorem valid171 : FnC TT Tryz.prog 171 (fun x => x.vars.length < big) (fun x => [lvlV x]) (fun x => .bool (validB x)) := by
  obtain ⟨C, hC, hH⟩ : ∃ C, ConS TT Tryz.prog C ∧ Has C 231 (fun x : Lvl => x.vars.length < big) (fun x => [lvlV x]) (fun x => .bool (coversB x)) :=
    ⟨_, addC_sound noC_sound covered231, Has.add fun x y e => by simp at e; rw [lvlV_inj e]⟩
  refine fun x hx => fnX_ends (v := .bool (validB x)) tok C hC (.cons (lvlV_pure x) .nil) (.ground rfl) (x.vars.length + 1) TT.f171 f171_split rfl ?_
  have hev := fun n m => hH.ev (T := TT) n (x := x) hx m
  have p0 : EndsAs (fun tm h => h = H.empty.new (.cells (cellsL (lvlV x)) 86 false) ∧ tm.get 1 = some (.pointer (some ⟨0, 0, none⟩))) (fun _ _ => False) (fun _ _ _ => False) (runCode TT (evK TT C (x.vars.length + 1 + 1)) ⟨171, none⟩ (piece Tryz.f171 [false]) ⟨initT [lvlV x] 0 .nil, [], H.empty, none⟩) := by
    simp [piece, sel, sub, Tryz.f171]
  have p1 : ∀ tm h, (h = H.empty.new (.cells (cellsL (lvlV x)) 86 false) ∧ tm.get 1 = some (.pointer (some ⟨0, 0, none⟩))) → EndsAs (fun tm h => ((0 ≤ x.const ∧ x.const ≤ 100) ∧ (0 < x.const → ∀ v ∈ x.vars, v.plus < x.const)) ∧ h = H.empty.new (.cells (cellsL (lvlV x)) 86 false) ∧ tm.get 1 = some (.pointer (some ⟨0, 0, none⟩))) (fun tm _ => tm.get 2 = some (.bool (validB x))) (fun _ _ _ => False)
      (runCode TT (evK TT C (x.vars.length + 1 + 1)) ⟨171, none⟩ (piece Tryz.f171 [true,false]) ⟨tm, [], h, none⟩) := by
    rintro tm h ⟨rfl, t1⟩
    by_cases c1 : x.const < 0
    · rw [validB_false fun hv => by have := hv.1; omega]
      simp [piece, sel, sub, Tryz.f171, t1, c1, condK_if]
    · by_cases c2 : 100 < x.const
      · rw [validB_false fun hv => by have := hv.1; omega]
        simp [piece, sel, sub, Tryz.f171, t1, c1, c2, condK_if]
      · have k0 : 0 ≤ x.const := by omega
        have k1 : x.const ≤ 100 := by omega
        by_cases c3 : 0 < x.const
        · by_cases c4 : ∃ v ∈ x.vars, x.const ≤ v.plus
          · have hcov : coversB x = true := by simp only [coversB, decide_eq_true c4]
            rw [validB_false fun hv => by
              obtain ⟨v, hv1, hv2⟩ := c4
              obtain ⟨k, hk, rfl⟩ := List.mem_iff_getElem.1 hv1
              have := (hv.2 k hk).2.2.2 c3
              omega]
            simp [piece, sel, sub, Tryz.f171, t1, c1, c2, condK_if, c3, hev, hcov]
          · have hcov : coversB x = false := by simp only [coversB, decide_eq_false c4]
            simp [piece, sel, sub, Tryz.f171, t1, c1, c2, condK_if, c3, hev, hcov, k0, k1]
            exact fun v hv => by
              have : ¬ x.const ≤ v.plus := fun q => c4 ⟨v, hv, q⟩
              omega
        · simp [piece, sel, sub, Tryz.f171, t1, c1, c2, condK_if, c3, k0, k1]
  have p2 : ∀ tm h, (((0 ≤ x.const ∧ x.const ≤ 100) ∧ (0 < x.const → ∀ v ∈ x.vars, v.plus < x.const)) ∧ h = H.empty.new (.cells (cellsL (lvlV x)) 86 false) ∧ tm.get 1 = some (.pointer (some ⟨0, 0, none⟩))) → EndsAs (fun tm h => ((0 ≤ x.const ∧ x.const ≤ 100) ∧ (0 < x.const → ∀ v ∈ x.vars, v.plus < x.const)) ∧ LwSt x 0 tm h) (fun _ _ => False) (fun _ _ _ => False)
      (runCode TT (evK TT C (x.vars.length + 1 + 1)) ⟨171, none⟩ (piece Tryz.f171 [true,true,false,false]) ⟨tm, [], h, none⟩) := by
    rintro tm h ⟨hc, rfl, t1⟩
    have fin : ∀ tm' h', h'.base = 0 → 0 < h'.next → h'.get 0 = some (.cells (cellsL (lvlV x)) 86 false) → tm'.get 1 = some (.pointer (some ⟨0, 0, none⟩)) → tm'.get 23 = some (lvarsV x.vars) → tm'.get 24 = some (i64 (x.vars.length : Nat)) → tm'.get 25 = some (i64 (0 : Int)) → LwSt x 0 tm' h' := fun tm' h' a b c d e f g => ⟨a, b, c, d, e, f, g⟩
    simp only [hc, true_and]
    simp [piece, sel, sub, Tryz.f171, t1]
    exact ⟨hc.2, fin _ _ (by simp) (by simp) (by simp) (by simp [t1]) (by simp) (by simp) (by simp)⟩
  refine ends_seqC (p0.mono (fun _ _ q => q) (fun _ _ q => q.elim) (fun _ _ _ q => q)) fun tm h q => ends_seqC (p1 tm h q) fun tm h q =>
    ends_seqC (N' := fun tm h => validP x) (ends_seqC ((p2 tm h q).mono (fun _ _ q => q) (fun _ _ q => q.elim) (fun _ _ _ q => q)) fun tm h q => ?_) fun tm h q => ?_
  · obtain ⟨⟨hc, hcov⟩, st⟩ := q
    refine ends_loop 0 (fun j tm h => ∃ i, j = x.vars.length - i ∧ i ≤ x.vars.length ∧ LwSt x i tm h ∧ ∀ k hk, k < i → varQ x k hk) x.vars.length ⟨0, rfl, by omega, st, fun k _ hk => by omega⟩ (by omega) ?_
    rintro j tm h m ⟨i, rfl, hi, st, hall⟩ -
    by_cases hlt : i < x.vars.length
    · refine (f171_iter st hlt (by omega)).mono (fun tm' h' q => ⟨_, by omega, i + 1, rfl, hlt, q.2, fun k hk hki => ?_⟩) (fun tm' _ q => ?_) (fun _ _ _ q => q.elim)
      · by_cases e : k = i
        · subst e; exact q.1
        · exact hall k hk (by omega)
      · rw [q.1, validB_false fun hv => q.2 ⟨(hv.2 i hlt).1, (hv.2 i hlt).2.1, (hv.2 i hlt).2.2.1⟩]
    · refine (f171_end st (by omega)).mono (fun _ _ q => q.elim) (fun _ _ q => q.elim) (fun _ _ _ q => ⟨q, hc, fun k hk => ?_⟩)
      obtain ⟨v1, v2, v3⟩ := hall k hk (by omega)
      exact ⟨v1, v2, v3, fun hp => hcov hp _ (List.getElem_mem hk)⟩
  · rw [validB_true q]
    simp [piece, sel, sub, Tryz.f171]
end Go.Proofs.YtkdfgoimgcegfaaGreatDoor
/- Layer 35: the error of a level, exactly, in both texts. -/
namespace Go.Proofs.YtkdfgoimgcegfaaGreatDoor
open Go Go.Am Go.Proofs Go.Am.Sym Go.Am.Eu
set_option maxRecDepth 10000
theorem TT.f127 : TT.func 127 = some Tryz.f127 := by kernel_rfl
theorem TT.f124 : TT.func 124 = some Tryz.f124 := by kernel_rfl
noncomputable def lvH (x : Lvl) : H := H.empty.new (.cells (cellsL (lvlV x)) 86 false)
@[simp] theorem lvH_base (x : Lvl) : (lvH x).base = 0 := by simp [lvH]
@[simp] theorem lvH_next (x : Lvl) : (lvH x).next = 1 := by simp [lvH]
@[simp] theorem lvH_get (x : Lvl) : (lvH x).get 0 = some (.cells (cellsL (lvlV x)) 86 false) := by simp [lvH]
/-- The two questions that the loops ask. -/
def over1 (p : Int) (v : LVar) : Prop := p ≤ v.index
def over2 (l : Int) (v : LVar) : Prop := v.index < 0 ∧ l ≤ w64 (-1 - v.index)
theorem levelE_3 {p l : Int} {x : Lvl} (h : validB x = false) : levelE p l x = 3 := by
  have : ¬ validP x := fun hv => by rw [validB_true hv] at h; cases h
  simp [levelE, this]
theorem validP_of {x : Lvl} (h : validB x = true) : validP x := by
  by_cases hv : validP x
  · exact hv
  · rw [validB_false hv] at h; cases h
theorem levelE_15 {p l : Int} {x : Lvl} (h : validP x) {v : LVar} (hv : v ∈ x.vars) (ho : over1 p v) : levelE p l x = 15 := by
  have : ∃ v ∈ x.vars, p ≤ v.index := ⟨v, hv, ho⟩
  unfold levelE; rw [if_neg (by simp [h]), if_pos this]
theorem levelE_23 {p l : Int} {x : Lvl} (h : validP x) (h1 : ∀ v ∈ x.vars, ¬ over1 p v) {v : LVar} (hv : v ∈ x.vars) (ho : over2 l v) : levelE p l x = 23 := by
  have k1 : ¬ ∃ v ∈ x.vars, p ≤ v.index := fun ⟨v, a, b⟩ => h1 v a b
  have k2 : ∃ v ∈ x.vars, v.index < 0 ∧ l ≤ w64 (-1 - v.index) := ⟨v, hv, ho⟩
  unfold levelE; rw [if_neg (by simp [h]), if_neg k1, if_pos k2]
theorem levelE_0 {p l : Int} {x : Lvl} (h : validP x) (h1 : ∀ v ∈ x.vars, ¬ over1 p v) (h2 : ∀ v ∈ x.vars, ¬ over2 l v) : levelE p l x = 0 := by
  have k1 : ¬ ∃ v ∈ x.vars, p ≤ v.index := fun ⟨v, a, b⟩ => h1 v a b
  have k2 : ¬ ∃ v ∈ x.vars, v.index < 0 ∧ l ≤ w64 (-1 - v.index) := fun ⟨v, a, b⟩ => h2 v a b
  unfold levelE; rw [if_neg (by simp [h]), if_neg k1, if_neg k2]
theorem all_of {α : Type} {l : List α} {Q : α → Prop} (h : ∀ k (hk : k < l.length), Q l[k]) : ∀ v ∈ l, Q v := fun v hv => by
  obtain ⟨k, hk, rfl⟩ := List.mem_iff_getElem.1 hv; exact h k hk
/-! The document's text. -/
noncomputable def f127B0 : Code := piece Tryz.f127 [true,true,false,true,false,false]
noncomputable def f127B2 : Code := piece Tryz.f127 [true,true,true,false,true,false,false]
theorem f127_split : Tryz.f127.body = some (.seq (piece Tryz.f127 [false]) (.seq (piece Tryz.f127 [true,false]) (.seq (.seq (piece Tryz.f127 [true,true,false,false]) (.block 0 (.loop f127B0))) (.seq (.seq (piece Tryz.f127 [true,true,true,false,false]) (.block 2 (.loop f127B2))) (piece Tryz.f127 [true,true,true,true]))))) := rfl
def LeSt (x : Lvl) (p l : Int) (tm : Tr Value) (h : H) : Prop := h = lvH x ∧ tm.get 1 = some (i64 p) ∧ tm.get 2 = some (i64 l) ∧ tm.get 3 = some (.pointer (some ⟨0, 0, none⟩))
section
variable {ev : Task → Ans} {x : Lvl} {p l : Int} {i : Nat} {tm : Tr Value} {h : H} (hp : 0 ≤ p) (st : LeSt x p l tm h)
include st
include hp in
theorem f127_iter0 (t7 : tm.get 7 = some (i64 i)) (hi : i < x.vars.length) (hw1 : i + 1 ≤ big) :
    EndsAs (fun tm' h' => ¬ over1 p x.vars[i] ∧ LeSt x p l tm' h' ∧ tm'.get 7 = some (i64 (i + 1 : Nat))) (fun tm' _ => over1 p x.vars[i] ∧ tm'.get 6 = some (i64 15)) (fun _ _ _ => False)
      (runCode TT ev ⟨127, none⟩ f127B0 ⟨tm, [], h, none⟩) := by
  obtain ⟨rfl, t1, t2, t3⟩ := st
  have e2 := wrapN hw1
  simp at e2
  by_cases c : p ≤ x.vars[i].index
  · have c0 : 0 ≤ x.vars[i].index := by omega
    simp [f127B0, piece, sel, sub, Tryz.f127, t1, t2, t3, t7, hi, e2, condK_if, c, c0, over1, LeSt]
  · by_cases c0 : 0 ≤ x.vars[i].index
    · simp [f127B0, piece, sel, sub, Tryz.f127, t1, t2, t3, t7, hi, e2, condK_if, c, c0, over1, LeSt]; try omega
    · simp [f127B0, piece, sel, sub, Tryz.f127, t1, t2, t3, t7, hi, e2, condK_if, c, c0, over1, LeSt]; try omega
theorem f127_end0 (t7 : tm.get 7 = some (i64 i)) (hi : x.vars.length ≤ i) :
    EndsAs (fun _ _ => False) (fun _ _ => False) (fun j tm' h' => j = 0 ∧ LeSt x p l tm' h') (runCode TT ev ⟨127, none⟩ f127B0 ⟨tm, [], h, none⟩) := by
  obtain ⟨rfl, t1, t2, t3⟩ := st
  have hi' : ¬ i < x.vars.length := by omega
  simp [f127B0, piece, sel, sub, Tryz.f127, t1, t2, t3, t7, hi', condK_if, LeSt]
theorem f127_iter2 (t8 : tm.get 8 = some (i64 i)) (hi : i < x.vars.length) (hw1 : i + 1 ≤ big) :
    EndsAs (fun tm' h' => ¬ over2 l x.vars[i] ∧ LeSt x p l tm' h' ∧ tm'.get 8 = some (i64 (i + 1 : Nat))) (fun tm' _ => over2 l x.vars[i] ∧ tm'.get 6 = some (i64 23)) (fun _ _ _ => False)
      (runCode TT ev ⟨127, none⟩ f127B2 ⟨tm, [], h, none⟩) := by
  obtain ⟨rfl, t1, t2, t3⟩ := st
  have e2 := wrapN hw1
  simp at e2
  by_cases c0 : x.vars[i].index < 0
  · by_cases c : l ≤ IntKind.i64.wrap (-1 - x.vars[i].index)
    · simp [f127B2, piece, sel, sub, Tryz.f127, t1, t2, t3, t8, hi, e2, condK_if, c, c0, over2, LeSt]
    · simp [f127B2, piece, sel, sub, Tryz.f127, t1, t2, t3, t8, hi, e2, condK_if, c, c0, over2, LeSt]; try omega
  · simp [f127B2, piece, sel, sub, Tryz.f127, t1, t2, t3, t8, hi, e2, condK_if, c0, over2, LeSt]; try omega
theorem f127_end2 (t8 : tm.get 8 = some (i64 i)) (hi : x.vars.length ≤ i) :
    EndsAs (fun _ _ => False) (fun _ _ => False) (fun j tm' h' => j = 2) (runCode TT ev ⟨127, none⟩ f127B2 ⟨tm, [], h, none⟩) := by
  obtain ⟨rfl, t1, t2, t3⟩ := st
  have hi' : ¬ i < x.vars.length := by omega
  simp [f127B2, piece, sel, sub, Tryz.f127, t1, t2, t3, t8, hi', condK_if]
end
structure LvArg where
  x : Lvl
  p : Int
  l : Int
theorem level127 : FnC TT Tryz.prog 127 (fun y : LvArg => y.x.vars.length < big ∧ 0 ≤ y.p) (fun y => [lvlV y.x, i64 y.p, i64 y.l]) (fun y => i64 (levelE y.p y.l y.x)) := by
  obtain ⟨C, hC, hH⟩ : ∃ C, ConS TT Tryz.prog C ∧ Has C 74 (fun x : Lvl => x.vars.length < big) (fun x => [lvlV x]) (fun x => .bool (validB x)) :=
    ⟨_, addC_sound noC_sound valid74, Has.add fun x y e => by simp at e; rw [lvlV_inj e]⟩
  rintro ⟨x, p, l⟩ ⟨hx, hp⟩
  have hx : x.vars.length < big := hx
  have hp : 0 ≤ p := hp
  have hev := fun n m => hH.ev (T := TT) n (x := x) hx m
  refine fnX_ends (v := i64 (levelE p l x)) tok C hC (.cons (lvlV_pure x) (.cons (.ground rfl) (.cons (.ground rfl) .nil))) (.ground rfl) (x.vars.length + 1) TT.f127 f127_split rfl ?_
  have p0 : EndsAs (fun tm h => LeSt x p l tm h) (fun _ _ => False) (fun _ _ _ => False) (runCode TT (evK TT C (x.vars.length + 1 + 1)) ⟨127, none⟩ (piece Tryz.f127 [false]) ⟨initT [lvlV x, i64 p, i64 l] 0 .nil, [], H.empty, none⟩) := by
    simp [piece, sel, sub, Tryz.f127, LeSt, lvH]
  have p1 : ∀ tm h, LeSt x p l tm h → EndsAs (fun tm h => validP x ∧ LeSt x p l tm h) (fun tm _ => tm.get 6 = some (i64 (levelE p l x))) (fun _ _ _ => False) (runCode TT (evK TT C (x.vars.length + 1 + 1)) ⟨127, none⟩ (piece Tryz.f127 [true,false]) ⟨tm, [], h, none⟩) := by
    rintro tm h ⟨rfl, t1, t2, t3⟩
    cases hv : validB x with
    | false =>
      rw [levelE_3 hv]
      simp [piece, sel, sub, Tryz.f127, t1, t2, t3, hev, hv]
    | true =>
      simp [piece, sel, sub, Tryz.f127, t1, t2, t3, hev, hv, LeSt]
      exact validP_of hv
  have p2 : ∀ tm h, validP x ∧ LeSt x p l tm h → EndsAs (fun tm h => validP x ∧ LeSt x p l tm h ∧ tm.get 7 = some (i64 (0 : Nat))) (fun _ _ => False) (fun _ _ _ => False) (runCode TT (evK TT C (x.vars.length + 1 + 1)) ⟨127, none⟩ (piece Tryz.f127 [true,true,false,false]) ⟨tm, [], h, none⟩) := by
    rintro tm h ⟨hv, rfl, t1, t2, t3⟩
    simp [piece, sel, sub, Tryz.f127, t1, t2, t3, LeSt, hv]
  have p3 : ∀ tm h, LeSt x p l tm h → EndsAs (fun tm h => LeSt x p l tm h ∧ tm.get 8 = some (i64 (0 : Nat))) (fun _ _ => False) (fun _ _ _ => False) (runCode TT (evK TT C (x.vars.length + 1 + 1)) ⟨127, none⟩ (piece Tryz.f127 [true,true,true,false,false]) ⟨tm, [], h, none⟩) := by
    rintro tm h ⟨rfl, t1, t2, t3⟩
    simp [piece, sel, sub, Tryz.f127, t1, t2, t3, LeSt]
  refine ends_seqC (p0.mono (fun _ _ q => q) (fun _ _ q => q.elim) (fun _ _ _ q => q)) fun tm h q => ends_seqC (p1 tm h q) fun tm h q =>
    ends_seqC (N' := fun tm h => validP x ∧ (∀ v ∈ x.vars, ¬ over1 p v) ∧ LeSt x p l tm h) (ends_seqC ((p2 tm h q).mono (fun _ _ q => q) (fun _ _ q => q.elim) (fun _ _ _ q => q)) fun tm h q => ?_) fun tm h q =>
    ends_seqC (N' := fun tm h => levelE p l x = 0) (ends_seqC ((p3 tm h q.2.2).mono (fun _ _ q => q) (fun _ _ q => q.elim) (fun _ _ _ q => q)) fun tm h q' => ?_) fun tm h q => ?_
  · obtain ⟨hv, st, t7⟩ := q
    refine ends_loop 0 (fun j tm h => ∃ i : Nat, j = x.vars.length - i ∧ i ≤ x.vars.length ∧ LeSt x p l tm h ∧ tm.get 7 = some (i64 i) ∧ ∀ k (hk : k < x.vars.length), k < i → ¬ over1 p x.vars[k]) x.vars.length ⟨0, by omega, by omega, st, t7, fun k _ hk => by omega⟩ (by omega) ?_
    rintro j tm h m ⟨i, rfl, hi, st, t7, hall⟩ -
    by_cases hlt : i < x.vars.length
    · refine (f127_iter0 hp st t7 hlt (by omega)).mono (fun tm' h' q => ⟨_, by omega, i + 1, rfl, hlt, q.2.1, q.2.2, fun k hk hki => ?_⟩) (fun tm' _ q => ?_) (fun _ _ _ q => q.elim)
      · by_cases e : k = i
        · subst e; exact q.1
        · exact hall k hk (by omega)
      · rw [q.2, levelE_15 hv (List.getElem_mem hlt) q.1]
    · exact (f127_end0 st t7 (by omega)).mono (fun _ _ q => q.elim) (fun _ _ q => q.elim) (fun _ _ _ q => ⟨q.1, hv, all_of fun k hk => hall k hk (by omega), q.2⟩)
  · obtain ⟨hv, h1, _⟩ := q
    obtain ⟨st, t8⟩ := q'
    refine ends_loop 0 (fun j tm h => ∃ i : Nat, j = x.vars.length - i ∧ i ≤ x.vars.length ∧ LeSt x p l tm h ∧ tm.get 8 = some (i64 i) ∧ ∀ k (hk : k < x.vars.length), k < i → ¬ over2 l x.vars[k]) x.vars.length ⟨0, by omega, by omega, st, t8, fun k _ hk => by omega⟩ (by omega) ?_
    rintro j tm h m ⟨i, rfl, hi, st, t8, hall⟩ -
    by_cases hlt : i < x.vars.length
    · refine (f127_iter2 st t8 hlt (by omega)).mono (fun tm' h' q => ⟨_, by omega, i + 1, rfl, hlt, q.2.1, q.2.2, fun k hk hki => ?_⟩) (fun tm' _ q => ?_) (fun _ _ _ q => q.elim)
      · by_cases e : k = i
        · subst e; exact q.1
        · exact hall k hk (by omega)
      · rw [q.2, levelE_23 hv h1 (List.getElem_mem hlt) q.1]
    · exact (f127_end2 st t8 (by omega)).mono (fun _ _ q => q.elim) (fun _ _ q => q.elim) (fun _ _ _ q => ⟨q, levelE_0 hv h1 (all_of fun k hk => hall k hk (by omega))⟩)
  · rw [q]
    simp [piece, sel, sub, Tryz.f127]
end Go.Proofs.YtkdfgoimgcegfaaGreatDoor
