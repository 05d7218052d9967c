/- Layer 35: depth, exactly; the check, exactly, in the document's text. -/
import Derived.Test.YtkdfgoimgcegfaaGreatDoorE35j
set_option linter.unusedSectionVars false
set_option linter.unusedSimpArgs false
set_option linter.unusedVariables false
namespace Go.Am.Eu
theorem depthL_take : ∀ {l : List Term} {i : Nat} (hi : i < l.length), depthL (l.take (i + 1)) = max (depthL (l.take i)) (depthN l[i])
  | t :: r, 0, _ => by simp [depthL_cons, depthL_nil]
  | t :: r, i + 1, h => by
    have ih := depthL_take (l := r) (i := i) (by simpa using h)
    rw [List.take_succ_cons, depthL_cons, ih, List.take_succ_cons, depthL_cons]
    simp [Nat.max_assoc]
theorem depthL_take_le : ∀ (l : List Term) (i : Nat), depthL (l.take i) ≤ depthL l
  | _, 0 => by simp [depthL_nil]
  | [], _ + 1 => by simp
  | t :: r, i + 1 => by
    have := depthL_take_le r i
    rw [List.take_succ_cons, depthL_cons, depthL_cons]; omega
end Go.Am.Eu
namespace Go.Proofs.YtkdfgoimgcegfaaGreatDoor
open Go Go.Am Go.Proofs Go.Am.Sym Go.Am.Eu
set_option maxRecDepth 10000
theorem TT.f63 : TT.func 63 = some Tryz.f63 := by kernel_rfl
theorem TT.f65 : TT.func 65 = some Tryz.f65 := by kernel_rfl
theorem bmaxN (h : H) (a b : Nat) : builtinOf TT h #[3, 3] 3 [i64 (a : Nat), i64 (b : Nat)] .max = .of (.val (i64 (max a b : Nat)) h) := by
  rw [bmax]
  have : (if (a : Int) < (b : Int) then (b : Int) else a) = ((max a b : Nat) : Int) := by
    split <;> omega
  rw [this]
/-! The document's text. -/
noncomputable def f65B : Code := piece Tryz.f65 [true,true,false,true,false,false]
theorem f65_split : Tryz.f65.body = some (.seq (piece Tryz.f65 [false]) (.seq (piece Tryz.f65 [true,false]) (.seq (.seq (piece Tryz.f65 [true,true,false,false]) (.block 0 (.loop f65B))) (piece Tryz.f65 [true,true,true])))) := rfl
section
variable {ev : Task → Ans} {t : Term} {i n : Nat} {tm : Tr Value} {h : H} (hh : h = ckH t) (t1 : tm.get 1 = some (.pointer (some ⟨0, 0, none⟩))) (t3 : tm.get 3 = some (i64 (n : Nat))) (t4 : tm.get 4 = some (i64 i))
include hh t1 t3 t4
theorem f65_iter (hev : ∀ x ∈ t.kids, ∀ h, ev (call0 65 [tv x] h) = .ret (i64 (depthN x : Nat)) h none) (hi : i < t.kids.length) (hw1 : i + 1 ≤ big) :
    EndsAs (fun tm' h' => h' = ckH t ∧ tm'.get 1 = some (.pointer (some ⟨0, 0, none⟩)) ∧ tm'.get 3 = some (i64 (max n (depthN t.kids[i]) : Nat)) ∧ tm'.get 4 = some (i64 (i + 1 : Nat))) (fun _ _ => False) (fun _ _ _ => False)
      (runCode TT ev ⟨65, none⟩ f65B ⟨tm, [], h, none⟩) := by
  subst hh
  have e2 := wrapN hw1
  simp at e2
  have he := hev t.kids[i] (List.getElem_mem hi)
  have hm := bmaxN (ckH t) n (depthN t.kids[i])
  simp at hm
  simp [f65B, piece, sel, sub, Tryz.f65, he, t1, t3, t4, hi, e2, hm]
theorem f65_end (hi : t.kids.length ≤ i) :
    EndsAs (fun _ _ => False) (fun _ _ => False) (fun j tm' h' => j = 0 ∧ h' = ckH t ∧ tm'.get 3 = some (i64 (n : Nat))) (runCode TT ev ⟨65, none⟩ f65B ⟨tm, [], h, none⟩) := by
  subst hh
  have hi' : ¬ i < t.kids.length := by omega
  simp [f65B, piece, sel, sub, Tryz.f65, t1, t3, t4, hi']
end
theorem depth65 : FnC TT Tryz.prog 65 (fun t => wt t < big) (fun t => [tv t]) (fun t => i64 (depthN t : Nat)) := by
  refine fnX_rec wt fun t ht hrec => ?_
  obtain ⟨C, hC, hH⟩ : ∃ C, ConS TT Tryz.prog C ∧ Has C 65 (fun y => wt y < wt t ∧ wt y < big) (fun y => [tv y]) (fun y => i64 (depthN y : Nat)) :=
    ⟨_, addC_sound noC_sound hrec, Has.add fun x y e => by simp at e; rw [tv_inj e]⟩
  have ht : wt t < big := ht
  have hk := wt_kids t
  have hdl : depthL t.kids < big := by have := depthL_le t.kids; have := nodesL_le t.kids; have := wt_eq t; omega
  have hev := fun n (x : Term) (hx : x ∈ t.kids) m => hH.ev (T := TT) n (x := x) ⟨wt_kid hx, by have := wt_kid hx; omega⟩ m
  refine fnX_ends (v := i64 (depthN t : Nat)) tok C hC (.cons (tv_pure t) .nil) (.ground rfl) (t.kids.length + 1) TT.f65 f65_split rfl ?_
  have p0 : EndsAs (fun tm h => h = ckH t ∧ tm.get 1 = some (.pointer (some ⟨0, 0, none⟩))) (fun _ _ => False) (fun _ _ _ => False) (runCode TT (evK TT C (t.kids.length + 1 + 1)) ⟨65, none⟩ (piece Tryz.f65 [false]) ⟨initT [tv t] 0 .nil, [], H.empty, none⟩) := by
    simp [piece, sel, sub, Tryz.f65, ckH]
  have p1 : ∀ tm h, (h = ckH t ∧ tm.get 1 = some (.pointer (some ⟨0, 0, none⟩))) → EndsAs (fun tm h => h = ckH t ∧ tm.get 1 = some (.pointer (some ⟨0, 0, none⟩)) ∧ tm.get 3 = some (i64 (0 : Nat))) (fun _ _ => False) (fun _ _ _ => False) (runCode TT (evK TT C (t.kids.length + 1 + 1)) ⟨65, none⟩ (piece Tryz.f65 [true,false]) ⟨tm, [], h, none⟩) := by
    rintro tm h ⟨rfl, t1⟩
    simp [piece, sel, sub, Tryz.f65, t1]
  have p2 : ∀ tm h, (h = ckH t ∧ tm.get 1 = some (.pointer (some ⟨0, 0, none⟩)) ∧ tm.get 3 = some (i64 (0 : Nat))) → EndsAs (fun tm h => h = ckH t ∧ tm.get 1 = some (.pointer (some ⟨0, 0, none⟩)) ∧ tm.get 3 = some (i64 (0 : Nat)) ∧ tm.get 4 = some (i64 (0 : Nat))) (fun _ _ => False) (fun _ _ _ => False) (runCode TT (evK TT C (t.kids.length + 1 + 1)) ⟨65, none⟩ (piece Tryz.f65 [true,true,false,false]) ⟨tm, [], h, none⟩) := by
    rintro tm h ⟨rfl, t1, t3⟩
    simp [piece, sel, sub, Tryz.f65, t1, t3]
  refine ends_seqC (p0.mono (fun _ _ q => q) (fun _ _ q => q.elim) (fun _ _ _ q => q)) fun tm h q => ends_seqC ((p1 tm h q).mono (fun _ _ q => q) (fun _ _ q => q.elim) (fun _ _ _ q => q)) fun tm h q =>
    ends_seqC (N' := fun tm h => tm.get 3 = some (i64 (depthL t.kids : Nat))) (ends_seqC ((p2 tm h q).mono (fun _ _ q => q) (fun _ _ q => q.elim) (fun _ _ _ q => q)) fun tm h q => ?_) fun tm h q => ?_
  · obtain ⟨rfl, t1, t3, t4⟩ := q
    refine ends_loop 0 (fun j tm h => ∃ i : Nat, j = t.kids.length - i ∧ i ≤ t.kids.length ∧ h = ckH t ∧ tm.get 1 = some (.pointer (some ⟨0, 0, none⟩)) ∧ tm.get 3 = some (i64 (depthL (t.kids.take i) : Nat)) ∧ tm.get 4 = some (i64 (i : Nat))) t.kids.length ⟨0, by omega, by omega, rfl, t1, by rw [List.take_zero, depthL_nil]; exact t3, t4⟩ (by omega) ?_
    rintro j tm h m ⟨i, rfl, hi, rfl, t1, t3, t4⟩ -
    by_cases hlt : i < t.kids.length
    · refine (f65_iter rfl t1 t3 t4 (fun x hx m' => hev m x hx m') hlt (by omega)).mono (fun tm' h' q => ⟨_, by omega, i + 1, rfl, hlt, q.1, q.2.1, ?_, q.2.2.2⟩) (fun _ _ q => q.elim) (fun _ _ _ q => q.elim)
      rw [depthL_take hlt]; exact q.2.2.1
    · refine (f65_end rfl t1 t3 t4 (by omega)).mono (fun _ _ q => q.elim) (fun _ _ q => q.elim) (fun _ _ _ q => ⟨q.1, ?_⟩)
      rw [q.2.2, List.take_of_length_le (by omega)]
  · have e := wrapN (n := depthL t.kids + 1) (by omega)
    simp at e
    rw [depthN_eq]
    simp [piece, sel, sub, Tryz.f65, q, e]
/-! The program's text. -/
noncomputable def f63B : Code := piece Tryz.f63 [true,true,false,true,false,false]
theorem f63_split : Tryz.f63.body = some (.seq (piece Tryz.f63 [false]) (.seq (piece Tryz.f63 [true,false]) (.seq (.seq (piece Tryz.f63 [true,true,false,false]) (.block 0 (.loop f63B))) (piece Tryz.f63 [true,true,true])))) := rfl
structure DpSt (t : Term) (n i : Nat) (tm : Tr Value) (h : H) : Prop where
  base : h.base = 0
  next : 0 < h.next
  t3 : tm.get 3 = some (i64 (n : Nat))
  t7 : tm.get 7 = some (termsV t.kids)
  t8 : tm.get 8 = some (i64 (t.kids.length : Nat))
  t9 : tm.get 9 = some (i64 i)
section
variable {ev : Task → Ans} {t : Term} {i n : Nat} {tm : Tr Value} {h : H} (st : DpSt t n i tm h)
include st
theorem f63_iter (hev : ∀ x ∈ t.kids, ∀ h, ev (call0 63 [tv x] h) = .ret (i64 (depthN x : Nat)) h none) (hi : i < t.kids.length) (hw1 : i + 1 ≤ big) :
    EndsAs (fun tm' h' => DpSt t (max n (depthN t.kids[i])) (i + 1) tm' h') (fun _ _ => False) (fun _ _ _ => False)
      (runCode TT ev ⟨63, none⟩ f63B ⟨tm, [], h, none⟩) := by
  obtain ⟨hb, hn, t3, t7, t8, t9⟩ := st
  have e2 := wrapN hw1
  simp at e2
  have he := hev t.kids[i] (List.getElem_mem hi)
  have hm := bmaxN h n (depthN t.kids[i])
  simp at hm
  simp [f63B, piece, sel, sub, Tryz.f63, he, hb, t3, t7, t8, t9, hi, e2, hm]
  exact ⟨by simp [hb], by simp, by simp [hm], by simp [t7], by simp [t8], by simp⟩
theorem f63_end (hi : t.kids.length ≤ i) :
    EndsAs (fun _ _ => False) (fun _ _ => False) (fun j tm' h' => j = 0 ∧ tm'.get 3 = some (i64 (n : Nat))) (runCode TT ev ⟨63, none⟩ f63B ⟨tm, [], h, none⟩) := by
  obtain ⟨hb, hn, t3, t7, t8, t9⟩ := st
  have hi' : ¬ i < t.kids.length := by omega
  simp [f63B, piece, sel, sub, Tryz.f63, t3, t7, t8, t9, hi']
end
theorem depth63 : FnC TT Tryz.prog 63 (fun t => wt t < big) (fun t => [tv t]) (fun t => i64 (depthN t : Nat)) := by
  refine fnX_rec wt fun t ht hrec => ?_
  obtain ⟨C, hC, hH⟩ : ∃ C, ConS TT Tryz.prog C ∧ Has C 63 (fun y => wt y < wt t ∧ wt y < big) (fun y => [tv y]) (fun y => i64 (depthN y : Nat)) :=
    ⟨_, addC_sound noC_sound hrec, Has.add fun x y e => by simp at e; rw [tv_inj e]⟩
  have ht : wt t < big := ht
  have hk := wt_kids t
  have hdl : depthL t.kids < big := by have := depthL_le t.kids; have := nodesL_le t.kids; have := wt_eq t; omega
  have hev := fun n (x : Term) (hx : x ∈ t.kids) m => hH.ev (T := TT) n (x := x) ⟨wt_kid hx, by have := wt_kid hx; omega⟩ m
  refine fnX_ends (v := i64 (depthN t : Nat)) tok C hC (.cons (tv_pure t) .nil) (.ground rfl) (t.kids.length + 1) TT.f63 f63_split rfl ?_
  have p0 : EndsAs (fun tm h => h = ckH t ∧ tm.get 1 = some (.pointer (some ⟨0, 0, none⟩))) (fun _ _ => False) (fun _ _ _ => False) (runCode TT (evK TT C (t.kids.length + 1 + 1)) ⟨63, none⟩ (piece Tryz.f63 [false]) ⟨initT [tv t] 0 .nil, [], H.empty, none⟩) := by
    simp [piece, sel, sub, Tryz.f63, ckH]
  have p1 : ∀ tm h, (h = ckH t ∧ tm.get 1 = some (.pointer (some ⟨0, 0, none⟩))) → EndsAs (fun tm h => h = ckH t ∧ tm.get 1 = some (.pointer (some ⟨0, 0, none⟩)) ∧ tm.get 3 = some (i64 (0 : Nat))) (fun _ _ => False) (fun _ _ _ => False) (runCode TT (evK TT C (t.kids.length + 1 + 1)) ⟨63, none⟩ (piece Tryz.f63 [true,false]) ⟨tm, [], h, none⟩) := by
    rintro tm h ⟨rfl, t1⟩
    simp [piece, sel, sub, Tryz.f63, t1]
  have p2 : ∀ tm h, (h = ckH t ∧ tm.get 1 = some (.pointer (some ⟨0, 0, none⟩)) ∧ tm.get 3 = some (i64 (0 : Nat))) → EndsAs (fun tm h => DpSt t 0 0 tm h) (fun _ _ => False) (fun _ _ _ => False) (runCode TT (evK TT C (t.kids.length + 1 + 1)) ⟨63, none⟩ (piece Tryz.f63 [true,true,false,false]) ⟨tm, [], h, none⟩) := by
    rintro tm h ⟨rfl, t1, t3⟩
    simp [piece, sel, sub, Tryz.f63, t1, t3]
    exact ⟨by simp, by simp, by simp [t3], by simp, by simp, by simp⟩
  refine ends_seqC (p0.mono (fun _ _ q => q) (fun _ _ q => q.elim) (fun _ _ _ q => q)) fun tm h q => ends_seqC ((p1 tm h q).mono (fun _ _ q => q) (fun _ _ q => q.elim) (fun _ _ _ q => q)) fun tm h q =>
    ends_seqC (N' := fun tm h => tm.get 3 = some (i64 (depthL t.kids : Nat))) (ends_seqC ((p2 tm h q).mono (fun _ _ q => q) (fun _ _ q => q.elim) (fun _ _ _ q => q)) fun tm h st => ?_) fun tm h q => ?_
  · refine ends_loop 0 (fun j tm h => ∃ i : Nat, j = t.kids.length - i ∧ i ≤ t.kids.length ∧ DpSt t (depthL (t.kids.take i)) i tm h) t.kids.length ⟨0, by omega, by omega, by rw [List.take_zero, depthL_nil]; exact st⟩ (by omega) ?_
    rintro j tm h m ⟨i, rfl, hi, st⟩ -
    by_cases hlt : i < t.kids.length
    · refine (f63_iter st (fun x hx m' => hev m x hx m') hlt (by omega)).mono (fun tm' h' q => ⟨_, by omega, i + 1, rfl, hlt, ?_⟩) (fun _ _ q => q.elim) (fun _ _ _ q => q.elim)
      rw [depthL_take hlt]; exact q
    · refine (f63_end st (by omega)).mono (fun _ _ q => q.elim) (fun _ _ q => q.elim) (fun _ _ _ q => ⟨q.1, ?_⟩)
      rw [q.2, List.take_of_length_le (by omega)]
  · have e := wrapN (n := depthL t.kids + 1) (by omega)
    simp at e
    rw [depthN_eq]
    simp [piece, sel, sub, Tryz.f63, q, e]
end Go.Proofs.YtkdfgoimgcegfaaGreatDoor
/- Layer 35: the check, exactly, in the document's text. -/
namespace Go.Proofs.YtkdfgoimgcegfaaGreatDoor
open Go Go.Am Go.Proofs Go.Am.Sym Go.Am.Eu
set_option maxRecDepth 10000
theorem TT.f24 : TT.func 24 = some Tryz.f24 := by kernel_rfl
structure ChArg where
  t : Term
  v : Int
  p : Int
  m : Int
  l : Int
def ChArg.enc (x : ChArg) : List Value := [tv x.t, i64 x.v, i64 x.p, i64 x.m, i64 x.l]
theorem ChArg.enc_inj {x y : ChArg} (h : x.enc = y.enc) : x = y := by
  cases x; cases y
  simp [ChArg.enc] at h
  obtain ⟨h0, h2, h3, h4, h5⟩ := h
  rw [tv_inj h0, h2, h3, h4, h5]
def ChArg.ok (x : ChArg) : Prop := wt x.t < big ∧ 0 ≤ x.v ∧ 0 ≤ x.p ∧ 0 ≤ x.m ∧ 0 ≤ x.l
noncomputable def ChArg.cE (x : ChArg) : Int := ckT x.v x.p x.m x.l 0 x.t
noncomputable def ChArg.hE (x : ChArg) : Int := checkE x.v x.p x.m x.l x.t
theorem ChArg.hE_of (x : ChArg) : x.hE = if x.cE ≠ 0 then x.cE else if 4096 < nodes x.t then 5 else if 200 < depthN x.t then 7 else 0 := rfl
theorem f24_split : Tryz.f24.body = some (.seq (piece Tryz.f24 [false]) (.seq (piece Tryz.f24 [true,false]) (.seq (piece Tryz.f24 [true,true,false]) (.seq (piece Tryz.f24 [true,true,true,false]) (piece Tryz.f24 [true,true,true,true]))))) := rfl
theorem check24 : FnC TT Tryz.prog 24 ChArg.ok ChArg.enc (fun x => i64 x.hE) := by
  obtain ⟨C, hC, hH64, hH7, hH65⟩ : ∃ C, ConS TT Tryz.prog C ∧ Has C 64 (fun x : CkArg => wt x.t + x.d < big ∧ 0 ≤ x.p) CkArg.enc (fun x => i64 x.cE) ∧ Has C 7 (fun t => nodes t ≤ big) (fun t => [tv t]) (fun t => i64 (nodes t)) ∧
      Has C 65 (fun t => wt t < big) (fun t => [tv t]) (fun t => i64 (depthN t : Nat)) :=
    ⟨_, addC_sound (addC_sound (addC_sound noC_sound check64) nodes_fn) depth65,
      .skip (by decide) (.skip (by decide) (.add fun x y e => by rw [CkArg.enc_inj e])),
      .skip (by decide) (.add fun x y e => by simp at e; rw [tv_inj e]),
      .add fun x y e => by simp at e; rw [tv_inj e]⟩
  rintro ⟨t, v, p, m, l⟩ ⟨ht, hv, hp, hm, hl⟩
  have ht : wt t < big := ht
  have hv : 0 ≤ v := hv
  have hp : 0 ≤ p := hp
  have hnb := nodes_le t
  have e64 := fun n h => hH64.ev (T := TT) n (x := ⟨t, 0, v, p, m, l⟩) ⟨ht, hp⟩ h
  have e7 := fun n h => hH7.ev (T := TT) n (x := t) (by omega) h
  have e65 := fun n h => hH65.ev (T := TT) n (x := t) ht h
  have hnv : ¬ v < 0 := by omega
  refine fnX_ends (v := i64 (ChArg.hE ⟨t, v, p, m, l⟩)) tok C hC (.cons (tv_pure t) (.cons (.ground rfl) (.cons (.ground rfl) (.cons (.ground rfl) (.cons (.ground rfl) .nil))))) (.ground rfl) 1 TT.f24 f24_split rfl ?_
  rw [ChArg.hE_of]
  generalize hX : (⟨t, v, p, m, l⟩ : ChArg).cE = c
  have e64' : ∀ n h, evK TT C n (call0 64 [tv t, i64 0, i64 v, i64 p, i64 m, i64 l] h) = .ret (i64 c) h none := fun n h => by rw [← hX]; exact e64 n h
  have en : (4096 < (nodes t : Int)) = (4096 < nodes t) := by apply propext; omega
  have ed : (200 < (depthN t : Int)) = (200 < depthN t) := by apply propext; omega
  have p0 : EndsAs (fun tm h => h = ckH t ∧ tm.get 1 = some (i64 v) ∧ tm.get 2 = some (i64 p) ∧ tm.get 3 = some (i64 m) ∧ tm.get 4 = some (i64 l) ∧ tm.get 5 = some (.pointer (some ⟨0, 0, none⟩))) (fun _ _ => False) (fun _ _ _ => False) (runCode TT (evK TT C (1 + 1)) ⟨24, none⟩ (piece Tryz.f24 [false]) ⟨initT (ChArg.enc ⟨t, v, p, m, l⟩) 0 .nil, [], H.empty, none⟩) := by
    simp [piece, sel, sub, Tryz.f24, ckH, ChArg.enc]
  refine ends_seqC (p0.mono (fun _ _ q => q) (fun _ _ q => q.elim) (fun _ _ _ q => q)) fun tm h q => ?_
  obtain ⟨rfl, t1, t2, t3, t4, t5⟩ := q
  by_cases hc : c = 0
  · by_cases h4 : 4096 < nodes t
    · simp [piece, sel, sub, Tryz.f24, t1, t2, t3, t4, t5, e64', e7, e65, hc, h4, en, hnv]
    · by_cases h2 : 200 < depthN t
      · simp [piece, sel, sub, Tryz.f24, t1, t2, t3, t4, t5, e64', e7, e65, hc, h4, h2, en, ed, hnv]
      · simp [piece, sel, sub, Tryz.f24, t1, t2, t3, t4, t5, e64', e7, e65, hc, h4, h2, en, ed, hnv]
  · simp [piece, sel, sub, Tryz.f24, t1, t2, t3, t4, t5, e64', hc, hnv]
end Go.Proofs.YtkdfgoimgcegfaaGreatDoor
