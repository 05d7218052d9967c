/- Layer 35: the first error of a term, exactly, in the document's text. -/
import Derived.Test.YtkdfgoimgcegfaaGreatDoorE35h
set_option linter.unusedSectionVars false
set_option linter.unusedSimpArgs false
set_option linter.unusedVariables false
namespace Go.Am.Eu
theorem ckL_drop {v p m l : Int} {d : Nat} {k : Int} {ks : List Term} {i : Nat} (hi : i < ks.length) : ckL v p m l d k i (ks.drop i) = if ckT v p m l (d + belowN k i) ks[i] ≠ 0 then ckT v p m l (d + belowN k i) ks[i] else ckL v p m l d k (i + 1) (ks.drop (i + 1)) := by
  rw [List.drop_eq_getElem_cons hi, ckL_cons]
theorem ckL_end {v p m l : Int} {d : Nat} {k : Int} {ks : List Term} {i : Nat} (hi : ks.length ≤ i) : ckL v p m l d k i (ks.drop i) = 0 := by
  rw [List.drop_eq_nil_of_le hi, ckL_nil]
theorem belowN_le (k : Int) (i : Nat) : belowN k i ≤ 1 := by unfold belowN; split <;> omega
end Go.Am.Eu
namespace Go.Proofs.YtkdfgoimgcegfaaGreatDoor
open Go Go.Am Go.Proofs Go.Am.Sym Go.Am.Eu
set_option maxRecDepth 10000
theorem TT.f64 : TT.func 64 = some Tryz.f64 := by kernel_rfl
noncomputable def f64B0 : Code := piece Tryz.f64 [true,true,true,true,false,true,false,false]
noncomputable def f64B2 : Code := piece Tryz.f64 [true,true,true,true,true,true,true,false,true,false,false]
theorem f64_split : Tryz.f64.body = some (.seq (piece Tryz.f64 [false]) (.seq (piece Tryz.f64 [true,false]) (.seq (piece Tryz.f64 [true,true,false]) (.seq (piece Tryz.f64 [true,true,true,false])
    (.seq (.seq (piece Tryz.f64 [true,true,true,true,false,false]) (.block 0 (.loop f64B0))) (.seq (piece Tryz.f64 [true,true,true,true,true,false]) (.seq (piece Tryz.f64 [true,true,true,true,true,true,false])
      (.seq (.seq (piece Tryz.f64 [true,true,true,true,true,true,true,false,false]) (.block 2 (.loop f64B2))) (piece Tryz.f64 [true,true,true,true,true,true,true,true]))))))))) := rfl
structure CkArg where
  t : Term
  d : Nat
  v : Int
  p : Int
  m : Int
  l : Int
def CkArg.enc (x : CkArg) : List Value := [tv x.t, i64 (x.d : Nat), i64 x.v, i64 x.p, i64 x.m, i64 x.l]
theorem CkArg.enc_inj {x y : CkArg} (h : x.enc = y.enc) : x = y := by
  cases x; cases y
  simp [CkArg.enc] at h
  obtain ⟨h0, h1, h2, h3, h4, h5⟩ := h
  rw [tv_inj h0, h2, h3, h4, h5]
  congr 1; omega
noncomputable def CkArg.nE (x : CkArg) : Int := nodeE x.v x.p x.m x.l x.d x.t
noncomputable def CkArg.cE (x : CkArg) : Int := ckT x.v x.p x.m x.l x.d x.t
theorem CkArg.cE_node {x : CkArg} (h : x.nE ≠ 0) : x.cE = x.nE := by
  show ckT _ _ _ _ _ _ = _
  rw [ckT_eq]; exact if_pos h
theorem CkArg.cE_kids {x : CkArg} (h : x.nE = 0) : x.cE = ckL x.v x.p x.m x.l x.d x.t.kind 0 x.t.kids := by
  show ckT _ _ _ _ _ _ = _
  rw [ckT_eq]; exact if_neg (fun k => k h)
/-- The slots that stay. -/
def CkSt (x : CkArg) (tm : Tr Value) : Prop :=
  tm.get 1 = some (i64 (x.d : Nat)) ∧ tm.get 2 = some (i64 x.v) ∧ tm.get 3 = some (i64 x.p) ∧ tm.get 4 = some (i64 x.m) ∧ tm.get 5 = some (i64 x.l) ∧ tm.get 6 = some (.pointer (some ⟨0, 0, none⟩))
section
variable {ev : Task → Ans} {x : CkArg} {i : Nat} {tm : Tr Value} {h : H}
theorem f64_p0 : EndsAs (fun tm h => h = ckH x.t ∧ CkSt x tm) (fun _ _ => False) (fun _ _ _ => False) (runCode TT ev ⟨64, none⟩ (piece Tryz.f64 [false]) ⟨initT x.enc 0 .nil, [], H.empty, none⟩) := by
  simp [piece, sel, sub, Tryz.f64, CkSt, CkArg.enc, ckH]
variable (st : h = ckH x.t ∧ CkSt x tm)
include st
theorem f64_p1 (hev : ∀ h, ev (call0 125 [tv x.t] h) = .ret (.bool (formB x.t)) h none) :
    EndsAs (fun tm h => formB x.t = true ∧ h = ckH x.t ∧ CkSt x tm) (fun tm _ => formB x.t = false ∧ tm.get 12 = some (i64 3)) (fun _ _ _ => False) (runCode TT ev ⟨64, none⟩ (piece Tryz.f64 [true,false]) ⟨tm, [], h, none⟩) := by
  obtain ⟨rfl, s1, s2, s3, s4, s5, s6⟩ := st
  cases hf : formB x.t <;> simp [piece, sel, sub, Tryz.f64, hev, hf, s1, s2, s3, s4, s5, s6, CkSt]
theorem f64_p2 (hev : ∀ h, ev (call0 126 [.string x.t.name] h) = .ret (.bool (nameB x.t.name)) h none) :
    EndsAs (fun tm h => ¬ (x.t.kind = 3 ∧ nameB x.t.name = false) ∧ h = ckH x.t ∧ CkSt x tm) (fun tm _ => (x.t.kind = 3 ∧ nameB x.t.name = false) ∧ tm.get 12 = some (i64 29)) (fun _ _ _ => False) (runCode TT ev ⟨64, none⟩ (piece Tryz.f64 [true,true,false]) ⟨tm, [], h, none⟩) := by
  obtain ⟨rfl, s1, s2, s3, s4, s5, s6⟩ := st
  by_cases hk : x.t.kind = 3
  · cases hf : nameB x.t.name <;> simp [piece, sel, sub, Tryz.f64, hev, hf, hk, s1, s2, s3, s4, s5, s6, CkSt]
  · simp [piece, sel, sub, Tryz.f64, hev, hk, s1, s2, s3, s4, s5, s6, CkSt]
theorem f64_p3 : EndsAs (fun tm h => ¬ 8 < x.t.levels.length ∧ h = ckH x.t ∧ CkSt x tm) (fun tm _ => 8 < x.t.levels.length ∧ tm.get 12 = some (i64 6)) (fun _ _ _ => False) (runCode TT ev ⟨64, none⟩ (piece Tryz.f64 [true,true,true,false]) ⟨tm, [], h, none⟩) := by
  obtain ⟨rfl, s1, s2, s3, s4, s5, s6⟩ := st
  have e8 : (8 < (x.t.levels.length : Int)) = (8 < x.t.levels.length) := by apply propext; omega
  by_cases h8 : 8 < x.t.levels.length
  · simp [piece, sel, sub, Tryz.f64, h8, e8, s1, s2, s3, s4, s5, s6, CkSt]
  · simp [piece, sel, sub, Tryz.f64, h8, e8, s1, s2, s3, s4, s5, s6, CkSt]; try omega
theorem f64_p4 : EndsAs (fun tm h => h = ckH x.t ∧ CkSt x tm ∧ tm.get 13 = some (i64 (0 : Nat))) (fun _ _ => False) (fun _ _ _ => False) (runCode TT ev ⟨64, none⟩ (piece Tryz.f64 [true,true,true,true,false,false]) ⟨tm, [], h, none⟩) := by
  obtain ⟨rfl, s1, s2, s3, s4, s5, s6⟩ := st
  simp [piece, sel, sub, Tryz.f64, s1, s2, s3, s4, s5, s6, CkSt]
theorem f64_iter0 (hev : ∀ y ∈ x.t.levels, ∀ h, ev (call0 127 [lvlV y, i64 x.p, i64 x.l] h) = .ret (i64 (levelE x.p x.l y)) h none) (t13 : tm.get 13 = some (i64 i)) (hi : i < x.t.levels.length) (hw1 : i + 1 ≤ big) :
    EndsAs (fun tm' h' => levelE x.p x.l x.t.levels[i] = 0 ∧ (h' = ckH x.t ∧ CkSt x tm') ∧ tm'.get 13 = some (i64 (i + 1 : Nat))) (fun tm' _ => levelE x.p x.l x.t.levels[i] ≠ 0 ∧ tm'.get 12 = some (i64 (levelE x.p x.l x.t.levels[i]))) (fun _ _ _ => False)
      (runCode TT ev ⟨64, none⟩ f64B0 ⟨tm, [], h, none⟩) := by
  obtain ⟨rfl, s1, s2, s3, s4, s5, s6⟩ := st
  have e2 := wrapN hw1
  simp at e2
  have he := hev x.t.levels[i] (List.getElem_mem hi)
  by_cases c : levelE x.p x.l x.t.levels[i] = 0 <;> simp [f64B0, piece, sel, sub, Tryz.f64, he, c, s1, s2, s3, s4, s5, s6, t13, hi, e2, CkSt]
theorem f64_end0 (t13 : tm.get 13 = some (i64 i)) (hi : x.t.levels.length ≤ i) :
    EndsAs (fun _ _ => False) (fun _ _ => False) (fun j tm' h' => j = 0 ∧ h' = ckH x.t ∧ CkSt x tm') (runCode TT ev ⟨64, none⟩ f64B0 ⟨tm, [], h, none⟩) := by
  obtain ⟨rfl, s1, s2, s3, s4, s5, s6⟩ := st
  have hi' : ¬ i < x.t.levels.length := by omega
  simp [f64B0, piece, sel, sub, Tryz.f64, s1, s2, s3, s4, s5, s6, t13, hi', CkSt]
theorem f64_p5 : EndsAs (fun tm h => ¬ (x.t.kind = 0 ∧ (x.t.index < 0 ∨ x.v ≤ w64 (x.t.index - x.d))) ∧ h = ckH x.t ∧ CkSt x tm) (fun tm _ => (x.t.kind = 0 ∧ (x.t.index < 0 ∨ x.v ≤ w64 (x.t.index - x.d))) ∧ tm.get 12 = some (i64 24)) (fun _ _ _ => False) (runCode TT ev ⟨64, none⟩ (piece Tryz.f64 [true,true,true,true,true,false]) ⟨tm, [], h, none⟩) := by
  obtain ⟨rfl, s1, s2, s3, s4, s5, s6⟩ := st
  by_cases k0 : x.t.kind = 0
  · by_cases i0 : x.t.index < 0
    · simp [piece, sel, sub, Tryz.f64, s1, s2, s3, s4, s5, s6, CkSt, k0, i0]
    · by_cases hv : x.v ≤ IntKind.i64.wrap (x.t.index - x.d)
      · simp [piece, sel, sub, Tryz.f64, s1, s2, s3, s4, s5, s6, CkSt, k0, i0, hv]
      · simp [piece, sel, sub, Tryz.f64, s1, s2, s3, s4, s5, s6, CkSt, k0, i0, hv]; try omega
  · simp [piece, sel, sub, Tryz.f64, s1, s2, s3, s4, s5, s6, CkSt, k0]
theorem f64_p6 : EndsAs (fun tm h => ¬ (x.t.kind = 12 ∧ (x.t.index < 0 ∨ x.m ≤ x.t.index)) ∧ h = ckH x.t ∧ CkSt x tm) (fun tm _ => (x.t.kind = 12 ∧ (x.t.index < 0 ∨ x.m ≤ x.t.index)) ∧ tm.get 12 = some (i64 23)) (fun _ _ _ => False) (runCode TT ev ⟨64, none⟩ (piece Tryz.f64 [true,true,true,true,true,true,false]) ⟨tm, [], h, none⟩) := by
  obtain ⟨rfl, s1, s2, s3, s4, s5, s6⟩ := st
  by_cases k0 : x.t.kind = 12
  · by_cases i0 : x.t.index < 0
    · simp [piece, sel, sub, Tryz.f64, s1, s2, s3, s4, s5, s6, CkSt, k0, i0]
    · by_cases hv : x.m ≤ x.t.index
      · simp [piece, sel, sub, Tryz.f64, s1, s2, s3, s4, s5, s6, CkSt, k0, i0, hv]
      · simp [piece, sel, sub, Tryz.f64, s1, s2, s3, s4, s5, s6, CkSt, k0, i0, hv]; try omega
  · simp [piece, sel, sub, Tryz.f64, s1, s2, s3, s4, s5, s6, CkSt, k0]
theorem f64_p7 : EndsAs (fun tm h => h = ckH x.t ∧ CkSt x tm ∧ tm.get 15 = some (i64 (0 : Nat))) (fun _ _ => False) (fun _ _ _ => False) (runCode TT ev ⟨64, none⟩ (piece Tryz.f64 [true,true,true,true,true,true,true,false,false]) ⟨tm, [], h, none⟩) := by
  obtain ⟨rfl, s1, s2, s3, s4, s5, s6⟩ := st
  simp [piece, sel, sub, Tryz.f64, s1, s2, s3, s4, s5, s6, CkSt]
theorem f64_iter2 (hev : ∀ (k : Int) (i : Nat) h, ev (call0 128 [i64 k, i64 (i : Nat)] h) = .ret (i64 (belowN k i : Nat)) h none)
    (her : ∀ y ∈ x.t.kids, ∀ (e : Nat), e ≤ 1 → ∀ h, ev (call0 64 [tv y, i64 (x.d + e : Nat), i64 x.v, i64 x.p, i64 x.m, i64 x.l] h) = .ret (i64 (ckT x.v x.p x.m x.l (x.d + e) y)) h none) (t15 : tm.get 15 = some (i64 i)) (hi : i < x.t.kids.length) (hw1 : i + 1 ≤ big) (hd : x.d + 1 ≤ big) :
    EndsAs (fun tm' h' => ckT x.v x.p x.m x.l (x.d + belowN x.t.kind i) x.t.kids[i] = 0 ∧ (h' = ckH x.t ∧ CkSt x tm') ∧ tm'.get 15 = some (i64 (i + 1 : Nat))) (fun tm' _ => ckT x.v x.p x.m x.l (x.d + belowN x.t.kind i) x.t.kids[i] ≠ 0 ∧ tm'.get 12 = some (i64 (ckT x.v x.p x.m x.l (x.d + belowN x.t.kind i) x.t.kids[i]))) (fun _ _ _ => False)
      (runCode TT ev ⟨64, none⟩ f64B2 ⟨tm, [], h, none⟩) := by
  obtain ⟨rfl, s1, s2, s3, s4, s5, s6⟩ := st
  have e2 := wrapN hw1
  simp at e2
  have hb := belowN_le x.t.kind i
  have e3 := wrapN (n := x.d + belowN x.t.kind i) (by omega)
  simp at e3
  have he := her x.t.kids[i] (List.getElem_mem hi) _ hb
  simp at he
  by_cases c : ckT x.v x.p x.m x.l (x.d + belowN x.t.kind i) x.t.kids[i] = 0 <;> simp [f64B2, piece, sel, sub, Tryz.f64, hev, he, c, s1, s2, s3, s4, s5, s6, t15, hi, e2, e3, CkSt]
theorem f64_end2 (t15 : tm.get 15 = some (i64 i)) (hi : x.t.kids.length ≤ i) :
    EndsAs (fun _ _ => False) (fun _ _ => False) (fun j tm' h' => j = 2 ∧ h' = ckH x.t ∧ CkSt x tm') (runCode TT ev ⟨64, none⟩ f64B2 ⟨tm, [], h, none⟩) := by
  obtain ⟨rfl, s1, s2, s3, s4, s5, s6⟩ := st
  have hi' : ¬ i < x.t.kids.length := by omega
  simp [f64B2, piece, sel, sub, Tryz.f64, s1, s2, s3, s4, s5, s6, t15, hi', CkSt]
theorem f64_p8 : EndsAs (fun _ _ => False) (fun tm _ => tm.get 12 = some (i64 0)) (fun _ _ _ => False) (runCode TT ev ⟨64, none⟩ (piece Tryz.f64 [true,true,true,true,true,true,true,true]) ⟨tm, [], h, none⟩) := by
  obtain ⟨rfl, s1, s2, s3, s4, s5, s6⟩ := st
  simp [piece, sel, sub, Tryz.f64, s1, s2, s3, s4, s5, s6]
end
theorem form_levels {t : Term} (h : formB t = true) (h8 : 8 < t.levels.length) : t.kind = 3 := by
  have hf : formP t := by
    by_cases hp : formP t
    · exact hp
    · rw [formB_false hp] at h; cases h
  have := hf.2.2.2.2
  split at this
  · omega
  · rcases this with e | e
    · omega
    · exact e
theorem check64 : FnC TT Tryz.prog 64 (fun x : CkArg => wt x.t + x.d < big ∧ 0 ≤ x.p) CkArg.enc (fun x => i64 x.cE) := by
  refine fnX_rec (fun x => wt x.t) fun x hpre hrec => ?_
  obtain ⟨ht, hp⟩ : wt x.t + x.d < big ∧ 0 ≤ x.p := hpre
  obtain ⟨C, hC, hH64, hH125, hH126, hH127, hH128⟩ : ∃ C, ConS TT Tryz.prog C ∧ Has C 64 (fun y : CkArg => wt y.t < wt x.t ∧ wt y.t + y.d < big ∧ 0 ≤ y.p) CkArg.enc (fun y => i64 y.cE) ∧ Has C 125 (fun _ : Term => True) (fun y => [tv y]) (fun y => .bool (formB y)) ∧
      Has C 126 (fun s : ByteArray => s.size < big) (fun y => [.string y]) (fun y => .bool (nameB y)) ∧ Has C 127 (fun y : LvArg => y.x.vars.length < big ∧ 0 ≤ y.p) (fun y => [lvlV y.x, i64 y.p, i64 y.l]) (fun y => i64 (levelE y.p y.l y.x)) ∧
      Has C 128 (fun _ : Int × Nat => True) (fun y => [i64 y.1, i64 (y.2 : Nat)]) (fun y => i64 (belowN y.1 y.2 : Nat)) :=
    ⟨_, addC_sound (addC_sound (addC_sound (addC_sound (addC_sound noC_sound hrec) form125) name126) level127) below128,
      .skip (by decide) (.skip (by decide) (.skip (by decide) (.skip (by decide) (.add fun x y e => by rw [CkArg.enc_inj e])))),
      .skip (by decide) (.skip (by decide) (.skip (by decide) (.add fun x y e => by simp at e; rw [tv_inj e]))),
      .skip (by decide) (.skip (by decide) (.add fun x y e => by simp at e; rw [e])),
      .skip (by decide) (.add fun x y e => by
        obtain ⟨x1, x2, x3⟩ := x; obtain ⟨y1, y2, y3⟩ := y
        simp at e; rw [lvlV_inj e.1, e.2.1, e.2.2]),
      .add fun x y e => by
        obtain ⟨x1, x2⟩ := x; obtain ⟨y1, y2⟩ := y
        simp at e
        obtain ⟨e1, e2⟩ := e
        have : x2 = y2 := by omega
        rw [e1, this]⟩
  have hk := wt_kids x.t
  have hl := wt_levels x.t
  have hnm : x.t.name.size < big := by have := wt_eq x.t; omega
  refine fnX_ends (v := i64 x.cE) tok C hC (.cons (tv_pure x.t) (.cons (.ground rfl) (.cons (.ground rfl) (.cons (.ground rfl) (.cons (.ground rfl) (.cons (.ground rfl) .nil)))))) (.ground rfl) (x.t.kids.length + x.t.levels.length + 1) TT.f64 f64_split rfl ?_
  have e125 := fun n m => hH125.ev (T := TT) n (x := x.t) trivial m
  have e126 := fun n m => hH126.ev (T := TT) n (x := x.t.name) hnm m
  have e127 := fun n (y : Lvl) (hy : y ∈ x.t.levels) m => hH127.ev (T := TT) n (x := ⟨y, x.p, x.l⟩) ⟨by have := wt_level hy; show y.vars.length < big; omega, hp⟩ m
  have e128 := fun n (k : Int) (i : Nat) m => hH128.ev (T := TT) n (x := (k, i)) trivial m
  have e64 : ∀ n, ∀ y ∈ x.t.kids, ∀ (e : Nat), e ≤ 1 → ∀ m, evK TT C n (call0 64 [tv y, i64 (x.d + e : Nat), i64 x.v, i64 x.p, i64 x.m, i64 x.l] m) = .ret (i64 (ckT x.v x.p x.m x.l (x.d + e) y)) m none :=
    fun n y hy e he m => hH64.ev (T := TT) n (x := ⟨y, x.d + e, x.v, x.p, x.m, x.l⟩) ⟨wt_kid hy, by have := wt_kid hy; show wt y + (x.d + e) < big; omega, hp⟩ m
  refine ends_seqC (f64_p0.mono (fun _ _ q => q) (fun _ _ q => q.elim) (fun _ _ _ q => q)) fun tm h st => ends_seqC ((f64_p1 st (e125 _)).mono (fun _ _ q => q) (fun tm _ q => ?_) (fun _ _ _ q => q)) fun tm h q1 =>
    ends_seqC ((f64_p2 q1.2 (e126 _)).mono (fun _ _ q => q) (fun tm _ q => ?_) (fun _ _ _ q => q)) fun tm h q2 =>
    ends_seqC ((f64_p3 q2.2).mono (fun _ _ q => q) (fun tm _ q => ?_) (fun _ _ _ q => q)) fun tm h q3 =>
    ends_seqC (N' := fun tm h => levelsE x.p x.l x.t.levels = 0 ∧ h = ckH x.t ∧ CkSt x tm) (ends_seqC ((f64_p4 q3.2).mono (fun _ _ q => q) (fun _ _ q => q.elim) (fun _ _ _ q => q)) fun tm h q => ?_) fun tm h q4 =>
    ends_seqC ((f64_p5 q4.2).mono (fun _ _ q => q) (fun tm _ q => ?_) (fun _ _ _ q => q)) fun tm h q5 =>
    ends_seqC ((f64_p6 q5.2).mono (fun _ _ q => q) (fun tm _ q => ?_) (fun _ _ _ q => q)) fun tm h q6 =>
    ends_seqC (N' := fun tm h => x.cE = 0 ∧ h = ckH x.t ∧ CkSt x tm) (ends_seqC ((f64_p7 q6.2).mono (fun _ _ q => q) (fun _ _ q => q.elim) (fun _ _ _ q => q)) fun tm h q => ?_) fun tm h q7 => ?_
  · have hf : x.nE = 3 := by unfold CkArg.nE nodeE; rw [if_pos q.1]
    rw [q.2, CkArg.cE_node (by rw [hf]; decide), hf]
  · have hf1 : ¬ formB x.t = false := by rw [q1.1]; simp
    have hf : x.nE = 29 := by unfold CkArg.nE nodeE; rw [if_neg hf1, if_pos q.1]
    rw [q.2, CkArg.cE_node (by rw [hf]; decide), hf]
  · have hf1 : ¬ formB x.t = false := by rw [q1.1]; simp
    have hf : x.nE = 6 := by unfold CkArg.nE nodeE; rw [if_neg hf1, if_neg q2.1, if_pos ⟨form_levels q1.1 q.1, q.1⟩]
    rw [q.2, CkArg.cE_node (by rw [hf]; decide), hf]
  · obtain ⟨a, b, t13⟩ := q
    refine ends_loop 0 (fun j tm h => ∃ i : Nat, j = x.t.levels.length - i ∧ i ≤ x.t.levels.length ∧ (h = ckH x.t ∧ CkSt x tm) ∧ tm.get 13 = some (i64 i) ∧ levelsE x.p x.l x.t.levels = levelsE x.p x.l (x.t.levels.drop i)) x.t.levels.length ⟨0, by omega, by omega, ⟨a, b⟩, t13, by rw [List.drop_zero]⟩ (by omega) ?_
    rintro j tm h m ⟨i, rfl, hi, st, t13, hall⟩ -
    by_cases hlt : i < x.t.levels.length
    · refine (f64_iter0 st (e127 m) t13 hlt (by omega)).mono (fun tm' h' q => ⟨_, by omega, i + 1, rfl, hlt, q.2.1, q.2.2, ?_⟩) (fun tm' _ q => ?_) (fun _ _ _ q => q.elim)
      · rw [hall, levelsE_drop hlt, if_neg (by simp [q.1])]
      · have hl : levelsE x.p x.l x.t.levels = levelE x.p x.l x.t.levels[i] := by rw [hall, levelsE_drop hlt, if_pos q.1]
        have hf1 : ¬ formB x.t = false := by rw [q1.1]; simp
        have hf : x.nE = levelE x.p x.l x.t.levels[i] := by unfold CkArg.nE nodeE; rw [if_neg hf1, if_neg q2.1, if_neg (fun k => q3.1 k.2), hl, if_pos q.1]
        rw [q.2, CkArg.cE_node (by rw [hf]; exact q.1), hf]
    · refine (f64_end0 st t13 (by omega)).mono (fun _ _ q => q.elim) (fun _ _ q => q.elim) (fun _ _ _ q => ⟨q.1, ?_, q.2⟩)
      rw [hall, levelsE_end (by omega)]
  · have hf1 : ¬ formB x.t = false := by rw [q1.1]; simp
    have h3 : ¬ levelsE x.p x.l x.t.levels ≠ 0 := fun h => h q4.1
    have hf : x.nE = 24 := by unfold CkArg.nE nodeE; rw [if_neg hf1, if_neg q2.1, if_neg (fun k => q3.1 k.2), if_neg h3, if_pos q.1]
    rw [q.2, CkArg.cE_node (by rw [hf]; decide), hf]
  · have hf1 : ¬ formB x.t = false := by rw [q1.1]; simp
    have h3 : ¬ levelsE x.p x.l x.t.levels ≠ 0 := fun h => h q4.1
    have hf : x.nE = 23 := by unfold CkArg.nE nodeE; rw [if_neg hf1, if_neg q2.1, if_neg (fun k => q3.1 k.2), if_neg h3, if_neg q5.1, if_pos q.1]
    rw [q.2, CkArg.cE_node (by rw [hf]; decide), hf]
  · obtain ⟨a, b, t15⟩ := q
    have hf1 : ¬ formB x.t = false := by rw [q1.1]; simp
    have h3 : ¬ levelsE x.p x.l x.t.levels ≠ 0 := fun h => h q4.1
    have hn : x.nE = 0 := by unfold CkArg.nE nodeE; rw [if_neg hf1, if_neg q2.1, if_neg (fun k => q3.1 k.2), if_neg h3, if_neg q5.1, if_neg q6.1]
    have hc := CkArg.cE_kids hn
    refine ends_loop 0 (fun j tm h => ∃ i : Nat, j = x.t.kids.length - i ∧ i ≤ x.t.kids.length ∧ (h = ckH x.t ∧ CkSt x tm) ∧ tm.get 15 = some (i64 i) ∧ x.cE = ckL x.v x.p x.m x.l x.d x.t.kind i (x.t.kids.drop i)) x.t.kids.length ⟨0, by omega, by omega, ⟨a, b⟩, t15, by rw [List.drop_zero]; exact hc⟩ (by omega) ?_
    rintro j tm h m ⟨i, rfl, hi, st, t15, hall⟩ -
    by_cases hlt : i < x.t.kids.length
    · refine (f64_iter2 st (e128 m) (e64 m) t15 hlt (by omega) (by omega)).mono (fun tm' h' q => ⟨_, by omega, i + 1, rfl, hlt, q.2.1, q.2.2, ?_⟩) (fun tm' _ q => ?_) (fun _ _ _ q => q.elim)
      · rw [hall, ckL_drop hlt, if_neg (by simp [q.1])]
      · rw [q.2, hall, ckL_drop hlt, if_pos q.1]
    · refine (f64_end2 st t15 (by omega)).mono (fun _ _ q => q.elim) (fun _ _ q => q.elim) (fun _ _ _ q => ⟨q.1, ?_, q.2⟩)
      rw [hall, ckL_end (by omega)]
  · rw [q7.1]
    exact (f64_p8 q7.2).mono (fun _ _ q => q.elim) (fun _ _ q => q) (fun _ _ _ q => q)
end Go.Proofs.YtkdfgoimgcegfaaGreatDoor
