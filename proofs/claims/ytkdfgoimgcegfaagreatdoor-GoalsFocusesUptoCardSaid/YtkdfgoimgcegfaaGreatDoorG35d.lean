/- Layer 35: the check of contexts; a small context. -/
import Derived.Test.YtkdfgoimgcegfaaGreatDoorT35d
import Derived.Test.YtkdfgoimgcegfaaGreatDoorE35k
import Derived.Test.YtkdfgoimgcegfaaGreatDoorE35s
import Derived.Test.YtkdfgoimgcegfaaGreatDoorE35v
import Derived.Test.YtkdfgoimgcegfaaGreatDoorE35t
set_option linter.unusedSectionVars false
set_option linter.unusedSimpArgs false
set_option linter.unusedVariables false
namespace Go.Proofs.YtkdfgoimgcegfaaGreatDoor
open Go Go.Am Go.Proofs Go.Am.Sym Go.Am.Eu
set_option maxRecDepth 10000
def ChArg.okR (x : ChArg) : Prop := wt x.t < big ∧ 0 ≤ x.v ∧ 0 ≤ x.p
theorem check24R : FnC TT Tryz.prog 24 ChArg.okR ChArg.enc (fun x => i64 x.hE) := by
  obtain ⟨C, hC, hH64, hH7, hH65⟩ : ∃ C, ConS TT Tryz.prog C ∧ Has C 64 (fun x : CkArg => wt x.t + x.d < big ∧ 0 ≤ x.p) CkArg.enc (fun x => i64 x.cE) ∧ Has C 7 (fun t => nodes t ≤ big) (fun t => [tv t]) (fun t => i64 (nodes t)) ∧
      Has C 65 (fun t => wt t < big) (fun t => [tv t]) (fun t => i64 (depthN t : Nat)) :=
    ⟨_, addC_sound (addC_sound (addC_sound noC_sound check64) nodes_fn) depth65,
      .skip (by decide) (.skip (by decide) (.add fun x y e => by rw [CkArg.enc_inj e])),
      .skip (by decide) (.add fun x y e => by simp at e; rw [tv_inj e]),
      .add fun x y e => by simp at e; rw [tv_inj e]⟩
  rintro ⟨t, v, p, m, l⟩ ⟨ht, hv, hp⟩
  have ht : wt t < big := ht
  have hv : 0 ≤ v := hv
  have hp : 0 ≤ p := hp
  have hnb := nodes_le t
  have e64 := fun n h => hH64.ev (T := TT) n (x := ⟨t, 0, v, p, m, l⟩) ⟨ht, hp⟩ h
  have e7 := fun n h => hH7.ev (T := TT) n (x := t) (by omega) h
  have e65 := fun n h => hH65.ev (T := TT) n (x := t) ht h
  have hnv : ¬ v < 0 := by omega
  refine fnX_ends (v := i64 (ChArg.hE ⟨t, v, p, m, l⟩)) tok C hC (.cons (tv_pure t) (.cons (.ground rfl) (.cons (.ground rfl) (.cons (.ground rfl) (.cons (.ground rfl) .nil))))) (.ground rfl) 1 TT.f24 f24_split rfl ?_
  rw [ChArg.hE_of]
  generalize hX : (⟨t, v, p, m, l⟩ : ChArg).cE = c
  have e64' : ∀ n h, evK TT C n (call0 64 [tv t, i64 0, i64 v, i64 p, i64 m, i64 l] h) = .ret (i64 c) h none := fun n h => by rw [← hX]; exact e64 n h
  have en : (4096 < (nodes t : Int)) = (4096 < nodes t) := by apply propext; omega
  have ed : (200 < (depthN t : Int)) = (200 < depthN t) := by apply propext; omega
  have p0 : EndsAs (fun tm h => h = ckH t ∧ tm.get 1 = some (i64 v) ∧ tm.get 2 = some (i64 p) ∧ tm.get 3 = some (i64 m) ∧ tm.get 4 = some (i64 l) ∧ tm.get 5 = some (.pointer (some ⟨0, 0, none⟩))) (fun _ _ => False) (fun _ _ _ => False) (runCode TT (evK TT C (1 + 1)) ⟨24, none⟩ (piece Tryz.f24 [false]) ⟨initT (ChArg.enc ⟨t, v, p, m, l⟩) 0 .nil, [], H.empty, none⟩) := by
    simp [piece, sel, sub, Tryz.f24, ckH, ChArg.enc]
  refine ends_seqC (p0.mono (fun _ _ q => q) (fun _ _ q => q.elim) (fun _ _ _ q => q)) fun tm h q => ?_
  obtain ⟨rfl, t1, t2, t3, t4, t5⟩ := q
  by_cases hc : c = 0
  · by_cases h4 : 4096 < nodes t
    · simp [piece, sel, sub, Tryz.f24, t1, t2, t3, t4, t5, e64', e7, e65, hc, h4, en, hnv]
    · by_cases h2 : 200 < depthN t
      · simp [piece, sel, sub, Tryz.f24, t1, t2, t3, t4, t5, e64', e7, e65, hc, h4, h2, en, ed, hnv]
      · simp [piece, sel, sub, Tryz.f24, t1, t2, t3, t4, t5, e64', e7, e65, hc, h4, h2, en, ed, hnv]
  · simp [piece, sel, sub, Tryz.f24, t1, t2, t3, t4, t5, e64', hc, hnv]

theorem ChArg.enc_pure (x : ChArg) : PureL x.enc := .cons (tv_pure _) (.cons (.ground rfl) (.cons (.ground rfl) (.cons (.ground rfl) (.cons (.ground rfl) .nil))))
theorem TT.f78 : TT.func 78 = some Tryz.f78 := by kernel_rfl
structure CcArg where
  c : List Term
  p : Int
  m : Int
  l : Int
def CcArg.enc (x : CcArg) : List Value := [termsV x.c, i64 0, i64 x.p, i64 x.m, i64 x.l]
theorem CcArg.enc_pure (x : CcArg) : PureL x.enc := .cons (termsV_pure _) (.cons (.ground rfl) (.cons (.ground rfl) (.cons (.ground rfl) (.cons (.ground rfl) .nil))))
noncomputable def f78B : Code := piece Tryz.f78 [true,false,true,false,false]
theorem f78_split : Tryz.f78.body = some (.seq (piece Tryz.f78 [false]) (.seq (.seq (piece Tryz.f78 [true,false,false]) (.block 0 (.loop f78B))) (piece Tryz.f78 [true,true]))) := rfl
structure CcSt (x : CcArg) (i : Nat) (tm : Tr Value) : Prop where
  t0 : tm.get 0 = some (termsV x.c)
  t1 : tm.get 1 = some (i64 0)
  t2 : tm.get 2 = some (i64 x.p)
  t3 : tm.get 3 = some (i64 x.m)
  t4 : tm.get 4 = some (i64 x.l)
  t11 : tm.get 11 = some (i64 i)
section
variable {ev : Task → Ans} {x : CcArg} {i : Nat} {tm : Tr Value} {h : H}
theorem f78_iter (st : CcSt x i tm) (hi : i < x.c.length) (hw1 : i + 1 ≤ big) (hev : ∃ y : H → Int, ∀ h, ev (call0 24 (ChArg.enc ⟨x.c[i], i, x.p, x.m, x.l⟩) h) = .ret (i64 (y h)) h none) :
    EndsAs (fun tm' h' => CcSt x (i + 1) tm') (fun tm' _ => ∃ k, tm'.get 10 = some (i64 k)) (fun _ _ _ => False)
      (runCode TT ev ⟨78, none⟩ f78B ⟨tm, [], h, none⟩) := by
  obtain ⟨t0, t1, t2, t3, t4, t11⟩ := st
  have e2 := wrapN hw1
  have e3 := wrapN (n := i) (by omega)
  simp at e2
  obtain ⟨y, hy⟩ := hev
  simp only [ChArg.enc] at hy
  by_cases c : y h = 0
  · simp [f78B, piece, sel, sub, Tryz.f78, t0, t1, t2, t3, t4, t11, hi, e2, e3, hy, c, condK_if]
    exact ⟨by simp [t0], by simp [t1], by simp [t2], by simp [t3], by simp [t4], by simp⟩
  · simp [f78B, piece, sel, sub, Tryz.f78, t0, t1, t2, t3, t4, t11, hi, e2, e3, hy, c, condK_if]
theorem f78_end (st : CcSt x i tm) (hi : x.c.length ≤ i) :
    EndsAs (fun _ _ => False) (fun _ _ => False) (fun j _ _ => j = 0) (runCode TT ev ⟨78, none⟩ f78B ⟨tm, [], h, none⟩) := by
  obtain ⟨t0, t1, t2, t3, t4, t11⟩ := st
  have hi' : ¬ i < x.c.length := by omega
  simp [f78B, piece, sel, sub, Tryz.f78, t0, t11, hi', condK_if]
end
theorem check78 : ∃ f : CcArg → Int, FnC TT Tryz.prog 78 (fun x => wtL x.c < big ∧ 0 ≤ x.p) CcArg.enc (fun x => i64 (f x)) := by
  obtain ⟨C, hC, hH⟩ : ∃ C, ConS TT Tryz.prog C ∧ HasE C 24 ChArg.okR ChArg.enc i64 :=
    ⟨_, addM_sound noC_sound (fun _ => rfl) check24R, HasE.add⟩
  refine fnE i64 fun x hx => fnE_ends tok C hC x.enc_pure (fun _ => .ground rfl) (x.c.length + 1) TT.f78 f78_split rfl ?_
  obtain ⟨hx, hp⟩ := hx
  have hlen := wtL_len x.c
  have p0 : EndsAs (fun tm h => tm.get 0 = some (termsV x.c) ∧ tm.get 1 = some (i64 0) ∧ tm.get 2 = some (i64 x.p) ∧ tm.get 3 = some (i64 x.m) ∧ tm.get 4 = some (i64 x.l)) (fun _ _ => False) (fun _ _ _ => False) (runCode TT (evK TT C (x.c.length + 1 + 1)) ⟨78, none⟩ (piece Tryz.f78 [false]) ⟨initT x.enc 0 .nil, [], H.empty, none⟩) := by
    simp [piece, sel, sub, Tryz.f78, CcArg.enc]
  have p1 : ∀ tm h, (tm.get 0 = some (termsV x.c) ∧ tm.get 1 = some (i64 0) ∧ tm.get 2 = some (i64 x.p) ∧ tm.get 3 = some (i64 x.m) ∧ tm.get 4 = some (i64 x.l)) → EndsAs (fun tm h => CcSt x 0 tm) (fun _ _ => False) (fun _ _ _ => False) (runCode TT (evK TT C (x.c.length + 1 + 1)) ⟨78, none⟩ (piece Tryz.f78 [true,false,false]) ⟨tm, [], h, none⟩) := by
    rintro tm h ⟨t0, t1, t2, t3, t4⟩
    simp [piece, sel, sub, Tryz.f78]
    exact ⟨by simp [t0], by simp [t1], by simp [t2], by simp [t3], by simp [t4], by simp⟩
  refine ends_seqC (p0.mono (fun _ _ q => q) (fun _ _ q => q.elim) (fun _ _ _ q => q)) fun tm h q => ends_seqC (N' := fun _ _ => True) (ends_seqC ((p1 tm h q).mono (fun _ _ q => q) (fun _ _ q => q.elim) (fun _ _ _ q => q)) fun tm h st => ?_) fun tm h q => ?_
  · refine ends_loop 0 (fun j tm h => ∃ i, j = x.c.length - i ∧ i ≤ x.c.length ∧ CcSt x i tm) x.c.length ⟨0, rfl, by omega, st⟩ (by omega) ?_
    rintro j tm h m ⟨i, rfl, hi, st⟩ -
    by_cases hlt : i < x.c.length
    · have h1 := wt_mem (List.getElem_mem hlt)
      refine (f78_iter st hlt (by omega) ?_).mono (fun tm' h' q => ⟨_, by omega, i + 1, rfl, hlt, q⟩) (fun tm' h' q => q) (fun _ _ _ q => q.elim)
      obtain ⟨y, hy⟩ := hH.data (T := TT) (x := ⟨x.c[i], i, x.p, x.m, x.l⟩) ⟨by show wt x.c[i] < big; omega, by show (0 : Int) ≤ i; omega, hp⟩ (ChArg.enc_pure _)
      exact ⟨y, hy m⟩
    · exact (f78_end st (by omega)).mono (fun _ _ q => q.elim) (fun _ _ q => q.elim) (fun _ _ _ q => ⟨q, trivial⟩)
  · simp [piece, sel, sub, Tryz.f78]
/-! Same with the zero term. -/
theorem lists52Z : ∃ f : List Lvl → Bool, FnC TT Tryz.prog 52 (fun _ => True) (fun l => [lvlsV l, lvlsV []]) (fun x => .bool (f x)) := by
  refine fnE Value.bool fun l hx => fnE_ends tok noC noC_sound (.cons (lvlsV_pure _) (.cons (lvlsV_pure _) .nil)) (fun _ => .ground rfl) 1 TT.f52 f52_split rfl ?_
  have p0 : EndsAs (fun tm h => h = H.empty ∧ tm.get 0 = some (lvlsV l) ∧ tm.get 1 = some (lvlsV [])) (fun _ _ => False) (fun _ _ _ => False) (runCode TT (evK TT noC (1 + 1)) ⟨52, none⟩ (piece Tryz.f52 [false]) ⟨initT [lvlsV l, lvlsV []] 0 .nil, [], H.empty, none⟩) := by
    simp [piece, sel, sub, Tryz.f52]
  have p1 : ∀ tm h, (h = H.empty ∧ tm.get 0 = some (lvlsV l) ∧ tm.get 1 = some (lvlsV [])) → EndsAs (fun tm h => l = [] ∧ h = H.empty ∧ tm.get 0 = some (lvlsV []) ∧ tm.get 1 = some (lvlsV [])) (fun tm _ => ∃ k, tm.get 4 = some (.bool k)) (fun _ _ _ => False) (runCode TT (evK TT noC (1 + 1)) ⟨52, none⟩ (piece Tryz.f52 [true,false]) ⟨tm, [], h, none⟩) := by
    rintro tm h ⟨rfl, t0, t1⟩
    cases l with
    | nil => simp [piece, sel, sub, Tryz.f52, t0, t1]
    | cons a l =>
      have e : ¬ ((l.length : Int) + 1 = 0) := by omega
      simp [piece, sel, sub, Tryz.f52, t0, t1, e]
  have p2 : ∀ tm h, (l = [] ∧ h = H.empty ∧ tm.get 0 = some (lvlsV []) ∧ tm.get 1 = some (lvlsV [])) → EndsAs (fun tm h => h = H.empty ∧ tm.get 0 = some (lvlsV []) ∧ tm.get 1 = some (lvlsV []) ∧ tm.get 5 = some (i64 (0 : Nat))) (fun _ _ => False) (fun _ _ _ => False) (runCode TT (evK TT noC (1 + 1)) ⟨52, none⟩ (piece Tryz.f52 [true,true,false,false]) ⟨tm, [], h, none⟩) := by
    rintro tm h ⟨_, rfl, t0, t1⟩
    simp [piece, sel, sub, Tryz.f52, t0, t1]
  refine ends_seqC (p0.mono (fun _ _ q => q) (fun _ _ q => q.elim) (fun _ _ _ q => q)) fun tm h q => ends_seqC (p1 tm h q) fun tm h q =>
    ends_seqC (N' := fun _ _ => True) (ends_seqC ((p2 tm h q).mono (fun _ _ q => q) (fun _ _ q => q.elim) (fun _ _ _ q => q)) fun tm h q => ?_) fun tm h _ => by simp [piece, sel, sub, Tryz.f52]
  obtain ⟨hb, t0, t1, t5⟩ := q
  refine ends_loop 0 (fun j tm h => h = H.empty ∧ tm.get 0 = some (lvlsV []) ∧ tm.get 1 = some (lvlsV []) ∧ tm.get 5 = some (i64 (0 : Nat))) 0 ⟨hb, t0, t1, t5⟩ (by omega) ?_
  rintro j tm h m ⟨hb, t0, t1, t5⟩ -
  exact (f52_end hb t0 t1 t5 (by simp)).mono (fun _ _ q => q.elim) (fun _ _ q => q.elim) (fun _ _ _ q => ⟨q, trivial⟩)
theorem f20Z_end {ev : Task → Ans} {x : Term} {tm : Tr Value} {h : H} (hk : x.kids = []) (hb : h.base = 0) (hg : h.get 0 = some (.cells (cellsL (tv x)) 26 false)) (t2 : tm.get 2 = some (.pointer (some ⟨0, 0, none⟩))) (t5 : tm.get 5 = some (i64 (0 : Nat))) :
    EndsAs (fun _ _ => False) (fun _ _ => False) (fun j _ _ => j = 0) (runCode TT ev ⟨20, none⟩ f20B ⟨tm, [], h, none⟩) := by
  simp [f20B, piece, sel, sub, Tryz.f20, hb, hg, t2, t5, hk]
theorem same20Z : ∃ f : Term → Bool, FnC TT Tryz.prog 20 (fun _ => True) (fun t => [tv t, tv zt]) (fun x => .bool (f x)) := by
  obtain ⟨f, hf⟩ := lists52Z
  obtain ⟨C, hC, hH⟩ : ∃ C, ConS TT Tryz.prog C ∧ HasE C 52 (fun _ : List Lvl => True) (fun l => [lvlsV l, lvlsV []]) Value.bool :=
    ⟨_, addM_sound noC_sound (fun _ => rfl) hf, HasE.add⟩
  refine fnE Value.bool fun t hx => fnE_ends tok C hC (.cons (tv_pure _) (.cons (tv_pure _) .nil)) (fun _ => .ground rfl) 1 TT.f20 f20_split rfl ?_
  obtain ⟨y, hy⟩ := hH.data (T := TT) (x := t.levels) trivial (.cons (lvlsV_pure _) (.cons (lvlsV_pure _) .nil))
  have z1 : zt.kind = 0 := rfl
  have z2 : zt.index = 0 := rfl
  have z3 : zt.name = ⟨#[]⟩ := rfl
  have z4 : zt.levels = [] := rfl
  have z5 : zt.kids = [] := rfl
  generalize zt = z at z1 z2 z3 z4 z5
  have p0 : EndsAs (fun tm h => h.base = 0 ∧ h.get 0 = some (.cells (cellsL (tv t)) 26 false) ∧ h.get 1 = some (.cells (cellsL (tv z)) 26 false) ∧ tm.get 2 = some (.pointer (some ⟨0, 0, none⟩)) ∧ tm.get 3 = some (.pointer (some ⟨1, 0, none⟩))) (fun _ _ => False) (fun _ _ _ => False) (runCode TT (evK TT C (1 + 1)) ⟨20, none⟩ (piece Tryz.f20 [false]) ⟨initT [tv t, tv z] 0 .nil, [], H.empty, none⟩) := by
    simp [piece, sel, sub, Tryz.f20]
  have p1 : ∀ tm h, (h.base = 0 ∧ h.get 0 = some (.cells (cellsL (tv t)) 26 false) ∧ h.get 1 = some (.cells (cellsL (tv z)) 26 false) ∧ tm.get 2 = some (.pointer (some ⟨0, 0, none⟩)) ∧ tm.get 3 = some (.pointer (some ⟨1, 0, none⟩))) → EndsAs (fun tm h => t.kids = [] ∧ h.base = 0 ∧ h.get 0 = some (.cells (cellsL (tv t)) 26 false) ∧ tm.get 2 = some (.pointer (some ⟨0, 0, none⟩))) (fun tm _ => ∃ k, tm.get 4 = some (.bool k)) (fun _ _ _ => False) (runCode TT (evK TT C (1 + 1)) ⟨20, none⟩ (piece Tryz.f20 [true,false]) ⟨tm, [], h, none⟩) := by
    rintro tm h ⟨hb, g0, g1, t2, t3⟩
    by_cases c1 : t.kind = 0
    · by_cases c2 : t.index = 0
      · by_cases c3 : t.name = ⟨#[]⟩
        · cases c4 : y h
          · simp [piece, sel, sub, Tryz.f20, hb, g0, g1, t2, t3, z1, z2, z3, z4, z5, hy, condK_if, c1, c2, c3, c4]
          · cases hk : t.kids with
            | nil => simp [piece, sel, sub, Tryz.f20, hb, g0, g1, t2, t3, z1, z2, z3, z4, z5, hy, condK_if, c1, c2, c3, c4, hk]
            | cons a l =>
              have e : ¬ ((l.length : Int) + 1 = 0) := by omega
              simp [piece, sel, sub, Tryz.f20, hb, g0, g1, t2, t3, z1, z2, z3, z4, z5, hy, condK_if, c1, c2, c3, c4, hk, e]
        · simp [piece, sel, sub, Tryz.f20, hb, g0, g1, t2, t3, z1, z2, z3, z4, z5, hy, condK_if, c1, c2, c3]
      · simp [piece, sel, sub, Tryz.f20, hb, g0, g1, t2, t3, z1, z2, z3, z4, z5, hy, condK_if, c1, c2]
    · simp [piece, sel, sub, Tryz.f20, hb, g0, g1, t2, t3, z1, z2, z3, z4, z5, hy, condK_if, c1]
  have p2 : ∀ tm h, (t.kids = [] ∧ h.base = 0 ∧ h.get 0 = some (.cells (cellsL (tv t)) 26 false) ∧ tm.get 2 = some (.pointer (some ⟨0, 0, none⟩))) → EndsAs (fun tm h => t.kids = [] ∧ h.base = 0 ∧ h.get 0 = some (.cells (cellsL (tv t)) 26 false) ∧ tm.get 2 = some (.pointer (some ⟨0, 0, none⟩)) ∧ tm.get 5 = some (i64 (0 : Nat))) (fun _ _ => False) (fun _ _ _ => False) (runCode TT (evK TT C (1 + 1)) ⟨20, none⟩ (piece Tryz.f20 [true,true,false,false]) ⟨tm, [], h, none⟩) := by
    rintro tm h ⟨hk, hb, g0, t2⟩
    simp [piece, sel, sub, Tryz.f20, t2, hk, hb, g0]
  refine ends_seqC (p0.mono (fun _ _ q => q) (fun _ _ q => q.elim) (fun _ _ _ q => q)) fun tm h q => ends_seqC (p1 tm h q) fun tm h q =>
    ends_seqC (N' := fun _ _ => True) (ends_seqC ((p2 tm h q).mono (fun _ _ q => q) (fun _ _ q => q.elim) (fun _ _ _ q => q)) fun tm h q => ?_) fun tm h _ => by simp [piece, sel, sub, Tryz.f20]
  refine ends_loop 0 (fun j tm h => t.kids = [] ∧ h.base = 0 ∧ h.get 0 = some (.cells (cellsL (tv t)) 26 false) ∧ tm.get 2 = some (.pointer (some ⟨0, 0, none⟩)) ∧ tm.get 5 = some (i64 (0 : Nat))) 0 q (by omega) ?_
  rintro j tm h m ⟨hk, hb, hg, t2, t5⟩ -
  exact (f20Z_end hk hb hg t2 t5).mono (fun _ _ q => q.elim) (fun _ _ q => q.elim) (fun _ _ _ q => ⟨q, trivial⟩)
end Go.Proofs.YtkdfgoimgcegfaaGreatDoor
/- Layer 35: a small context with terms: it answers. -/
namespace Go.Proofs.YtkdfgoimgcegfaaGreatDoor
open Go Go.Am Go.Proofs Go.Am.Sym Go.Am.Eu
set_option maxRecDepth 10000
theorem TT.f31 : TT.func 31 = some Tryz.f31 := by kernel_rfl
structure SmArg where
  l : List Meta
  c : List Term
  t : List Term
def SmArg.enc (x : SmArg) : List Value := [metasV x.l, termsV x.c, termsV x.t]
theorem SmArg.enc_pure (x : SmArg) : PureL x.enc := .cons (metasV_pure _) (.cons (termsV_pure _) (.cons (termsV_pure _) .nil))
def SmArg.ok (x : SmArg) : Prop := wtL x.c < big ∧ wtL x.t < big
noncomputable def f31B : Code := piece Tryz.f31 [true,true,false,true,false,false]
theorem f31_split : Tryz.f31.body = some (.seq (piece Tryz.f31 [false]) (.seq (piece Tryz.f31 [true,false]) (.seq (.seq (piece Tryz.f31 [true,true,false,false]) (.block 0 (.loop f31B))) (piece Tryz.f31 [true,true,true])))) := rfl
structure SmSt (x : SmArg) (i : Nat) (tm : Tr Value) (h : H) : Prop where
  base : h.base = 0
  t0 : tm.get 0 = some (metasV x.l)
  t1 : tm.get 1 = some (termsV x.c)
  t32 : tm.get 32 = some (termsV x.t)
  t33 : tm.get 33 = some (i64 (x.t.length : Nat))
  t34 : tm.get 34 = some (i64 i)
section
variable {ev : Task → Ans} {x : SmArg} {i : Nat} {tm : Tr Value} {h : H}
theorem f31_iter (st : SmSt x i tm h) (hi : i < x.t.length) (hw1 : i + 1 ≤ big) (hev : ∃ y : H → Int, ∀ h, ev (call0 24 (ChArg.enc ⟨x.t[i], (x.c.length : Nat), 8, (x.l.length : Nat), 65536⟩) h) = .ret (i64 (y h)) h none) :
    EndsAs (fun tm' h' => SmSt x (i + 1) tm' h') (fun tm' _ => ∃ k, tm'.get 6 = some (.bool k)) (fun _ _ _ => False)
      (runCode TT ev ⟨31, none⟩ f31B ⟨tm, [], h, none⟩) := by
  obtain ⟨hb, t0, t1, t32, t33, t34⟩ := st
  have e2 := wrapN hw1
  simp at e2
  obtain ⟨y, hy⟩ := hev
  simp only [ChArg.enc] at hy
  have fin : ∀ tm' h', h'.base = 0 → tm'.get 0 = some (metasV x.l) → tm'.get 1 = some (termsV x.c) → tm'.get 32 = some (termsV x.t) → tm'.get 33 = some (i64 (x.t.length : Nat)) → tm'.get 34 = some (i64 ((i : Int) + 1)) → SmSt x (i + 1) tm' h' := fun tm' h' a b c d e f => ⟨a, b, c, d, e, f⟩
  simp +contextual [f31B, piece, sel, sub, Tryz.f31, t0, t1, t32, t33, t34, hb, hi, e2, hy, condK_if]
  repeat' (first | split | (refine fin _ _ (by simp [hb]) (by simp [t0]) (by simp [t1]) (by simp [t32]) (by simp [t33]) (by simp)) | simp +contextual [t0, t1, t32, t33, t34, hb, hi, e2, hy, condK_if, *])
theorem f31_end (st : SmSt x i tm h) (hi : x.t.length ≤ i) :
    EndsAs (fun _ _ => False) (fun _ _ => False) (fun j tm' h' => j = 0 ∧ tm'.get 0 = some (metasV x.l) ∧ tm'.get 1 = some (termsV x.c)) (runCode TT ev ⟨31, none⟩ f31B ⟨tm, [], h, none⟩) := by
  obtain ⟨hb, t0, t1, t32, t33, t34⟩ := st
  have hi' : ¬ i < x.t.length := by omega
  simp [f31B, piece, sel, sub, Tryz.f31, t0, t1, t33, t34, hi']
end
theorem small31 : ∃ f : SmArg → Bool, FnC TT Tryz.prog 31 SmArg.ok SmArg.enc (fun x => .bool (f x)) := by
  obtain ⟨f1, hf1⟩ := nodes81
  obtain ⟨f2, hf2⟩ := few82
  obtain ⟨f3, hf3⟩ := check78
  obtain ⟨C, hC, h81, h82, h78, h24⟩ : ∃ C, ConS TT Tryz.prog C ∧ HasE C 81 (fun x : NdArg => wtL x.2 < big) encN i64 ∧ HasE C 82 (fun x : List Term => wtL x < big) (fun x => [termsV x]) Value.bool ∧
      HasE C 78 (fun x : CcArg => wtL x.c < big ∧ 0 ≤ x.p) CcArg.enc i64 ∧ HasE C 24 ChArg.okR ChArg.enc i64 :=
    ⟨_, addM_sound (addM_sound (addM_sound (addM_sound noC_sound (fun _ => rfl) hf1) (fun _ => rfl) hf2) (fun _ => rfl) hf3) (fun _ => rfl) check24R,
      .skip (by decide) (.skip (by decide) (.skip (by decide) .add)), .skip (by decide) (.skip (by decide) .add), .skip (by decide) .add, .add⟩
  refine fnE Value.bool fun x hx => fnE_ends tok C hC x.enc_pure (fun _ => .ground rfl) (x.t.length + 1) TT.f31 f31_split rfl ?_
  obtain ⟨hc, ht⟩ := hx
  have hlen := wtL_len x.t
  obtain ⟨y1, hy1⟩ := h81.data (T := TT) (x := (60, x.c)) hc (encN_pure _)
  obtain ⟨y2, hy2⟩ := h81.data (T := TT) (x := (60, x.t)) ht (encN_pure _)
  obtain ⟨y3, hy3⟩ := h82.data (T := TT) (x := x.c) hc (.cons (termsV_pure _) .nil)
  obtain ⟨y4, hy4⟩ := h82.data (T := TT) (x := x.t) ht (.cons (termsV_pure _) .nil)
  obtain ⟨y5, hy5⟩ := h78.data (T := TT) (x := ⟨x.c, 8, (x.l.length : Nat), 65536⟩) ⟨hc, by show (0 : Int) ≤ 8; decide⟩ (CcArg.enc_pure _)
  simp only [encN] at hy1 hy2
  simp only [CcArg.enc] at hy5
  have p0 : EndsAs (fun tm h => h.base = 0 ∧ tm.get 0 = some (metasV x.l) ∧ tm.get 1 = some (termsV x.c) ∧ tm.get 2 = some (termsV x.t)) (fun _ _ => False) (fun _ _ _ => False) (runCode TT (evK TT C (x.t.length + 1 + 1)) ⟨31, none⟩ (piece Tryz.f31 [false]) ⟨initT x.enc 0 .nil, [], H.empty, none⟩) := by
    simp [piece, sel, sub, Tryz.f31, SmArg.enc]
  have p1 : ∀ tm h, (h.base = 0 ∧ tm.get 0 = some (metasV x.l) ∧ tm.get 1 = some (termsV x.c) ∧ tm.get 2 = some (termsV x.t)) → EndsAs (fun tm h => h.base = 0 ∧ tm.get 0 = some (metasV x.l) ∧ tm.get 1 = some (termsV x.c) ∧ tm.get 2 = some (termsV x.t)) (fun tm _ => ∃ k, tm.get 6 = some (.bool k)) (fun _ _ _ => False) (runCode TT (evK TT C (x.t.length + 1 + 1)) ⟨31, none⟩ (piece Tryz.f31 [true,false]) ⟨tm, [], h, none⟩) := by
    rintro tm h ⟨hb, t0, t1, t2⟩
    simp +contextual [piece, sel, sub, Tryz.f31, t0, t1, t2, hb, hy1, hy2, hy3, hy4, condK_if]
    repeat' (first | split | simp +contextual [t0, t1, t2, hb, hy1, hy2, hy3, hy4, condK_if, *])
  have p2 : ∀ tm h, (h.base = 0 ∧ tm.get 0 = some (metasV x.l) ∧ tm.get 1 = some (termsV x.c) ∧ tm.get 2 = some (termsV x.t)) → EndsAs (fun tm h => SmSt x 0 tm h) (fun _ _ => False) (fun _ _ _ => False) (runCode TT (evK TT C (x.t.length + 1 + 1)) ⟨31, none⟩ (piece Tryz.f31 [true,true,false,false]) ⟨tm, [], h, none⟩) := by
    rintro tm h ⟨hb, t0, t1, t2⟩
    simp [piece, sel, sub, Tryz.f31, t2, hb]
    exact ⟨hb, by simp [t0], by simp [t1], by simp, by simp, by simp⟩
  refine ends_seqC (p0.mono (fun _ _ q => q) (fun _ _ q => q.elim) (fun _ _ _ q => q)) fun tm h q => ends_seqC (p1 tm h q) fun tm h q =>
    ends_seqC (N' := fun tm _ => tm.get 0 = some (metasV x.l) ∧ tm.get 1 = some (termsV x.c)) (ends_seqC ((p2 tm h q).mono (fun _ _ q => q) (fun _ _ q => q.elim) (fun _ _ _ q => q)) fun tm h st => ?_) fun tm h q => ?_
  · refine ends_loop 0 (fun j tm h => ∃ i, j = x.t.length - i ∧ i ≤ x.t.length ∧ SmSt x i tm h) x.t.length ⟨0, rfl, by omega, st⟩ (by omega) ?_
    rintro j tm h m ⟨i, rfl, hi, st⟩ -
    by_cases hlt : i < x.t.length
    · have h1 := wt_mem (List.getElem_mem hlt)
      refine (f31_iter st hlt (by omega) ?_).mono (fun tm' h' q => ⟨_, by omega, i + 1, rfl, hlt, q⟩) (fun tm' h' q => q) (fun _ _ _ q => q.elim)
      obtain ⟨y, hy⟩ := h24.data (T := TT) (x := ⟨x.t[i], (x.c.length : Nat), 8, (x.l.length : Nat), 65536⟩) ⟨by show wt x.t[i] < big; omega, by show (0 : Int) ≤ (x.c.length : Nat); omega, by show (0 : Int) ≤ 8; decide⟩ (ChArg.enc_pure _)
      exact ⟨y, hy m⟩
    · exact (f31_end st (by omega)).mono (fun _ _ q => q.elim) (fun _ _ q => q.elim) (fun _ _ _ q => q)
  · obtain ⟨t0, t1⟩ := q
    simp [piece, sel, sub, Tryz.f31, t0, t1, hy5]
    omega
end Go.Proofs.YtkdfgoimgcegfaaGreatDoor
