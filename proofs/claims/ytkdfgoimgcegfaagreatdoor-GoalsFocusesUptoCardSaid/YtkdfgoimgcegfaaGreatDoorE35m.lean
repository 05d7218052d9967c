/- Layer 35: the walk over the nodes of a term (a range over a function): one round. -/
import Derived.Test.YtkdfgoimgcegfaaGreatDoorE35k
set_option linter.unusedSectionVars false
set_option linter.unusedSimpArgs false
set_option linter.unusedVariables false
namespace Go.Am
open Go
variable {T : Tab} {P : Program} {C : Con}
theorem evK_yield (n : Nat) {l : Nat} {args : List Value} {h : H} : evK T C (n + 1) (.call (.func (.yield l) #[] #[]) args h none) = callYield T (evK T C n) l args h (h.get l) := by
  have := evalC_none (T := T) (C := taskOf C) (t := .call (.func (.yield l) #[] #[]) args h none) rfl n
  exact this
def rfA : Code → Code
  | .rangeFunc _ _ a _ => a
  | _ => .skip
def rfB : Code → Code
  | .rangeFunc _ _ _ b => b
  | _ => .skip
end Go.Am
namespace Go.Proofs.YtkdfgoimgcegfaaGreatDoor
open Go Go.Am Go.Proofs Go.Am.Sym Go.Am.Eu
set_option maxRecDepth 10000
theorem TT.f22 : TT.func 22 = some Tryz.f22 := by kernel_rfl
noncomputable def f22RF : Code := piece Tryz.f22 [true,true,true,false,true,false]
noncomputable def f22A : Code := rfA f22RF
noncomputable def f22Y : Code := rfB f22RF
theorem f22_rf : f22RF = .rangeFunc (.tmp 26) #[27, 28] f22A f22Y := rfl
theorem f22_ok : (codeOK Tryz.f22.ntmps f22A && codeOK Tryz.f22.ntmps f22Y) = true := by kernel_rfl
/-- The loop's record. -/
noncomputable def lp0 (tm0 : Tr Value) (st : LoopState) (pe : Option Code) : ALoop := { state := st, pending := pe, fn := 22, tmps := tm0, params := #[27, 28], assign := f22A, body := f22Y, defers := 5 }
abbrev yv : Value := .func (.yield 6) #[] #[]
abbrev vc : Value := .func (.func 121) ⟨[]⟩ ⟨[.pointer (some ⟨7, 0, none⟩), .pointer (some ⟨8, 0, none⟩), .pointer (some ⟨9, 0, none⟩)]⟩
/-- Memory, while the walk goes on. -/
structure VI (Z : AObj) (s : Scope) (n : Nat) (e : Int) (lp : ALoop) (h : H) : Prop where
  base : h.base = 0
  next : 10 ≤ h.next
  r : h.get 1 = some (.cells [i64 e] 39 false)
  sc : h.get 2 = some (.cells (scC s) 121 false)
  sz : h.get 3 = some (.cells [i64 (n : Nat)] 3 false)
  df : h.get 5 = some (.deferred (some []))
  lp : h.get 6 = some (.loop lp)
  yl : h.get 7 = some (.cells [yv] 181 false)
  ks : h.get 8 = some (.cells usesL 184 false)
  vs : h.get 9 = some (.cells [vc] 168 false)
  z : h.get 0 = some Z
/-- What the slots hold in which the loop was entered. -/
structure TmOk (tm0 : Tr Value) : Prop where
  t5 : tm0.get 5 = some (.pointer (some ⟨0, 0, none⟩))
  t10 : tm0.get 10 = some (.pointer (some ⟨1, 0, none⟩))
  t11 : tm0.get 11 = some (.pointer (some ⟨2, 0, none⟩))
  t12 : tm0.get 12 = some (.pointer (some ⟨3, 0, none⟩))
theorem agg39 : Am.isAgg TT 39 = some false := by kernel_rfl
theorem s39 : Am.size TT 39 = some 1 := by kernel_rfl
theorem s3 : Am.size TT 3 = some 1 := by kernel_rfl
@[simp] theorem p39_one (v : Value) : partOf TT 39 [v] 0 = some v := by rw [part_one agg39]; rfl
@[simp] theorem p3_one (v : Value) : partOf TT 3 [v] 0 = some v := by rw [p3]; rfl
@[simp] theorem store39 (h : H) (b : Nat) (n : Int) : storeAt TT h 39 (i64 n) (.pointer (some ⟨b, 0, none⟩)) = storeIn h b 0 [i64 n] (h.get b) := by
  show onB none (storeIn h b 0 [i64 n] (h.get b)) (fits [i64 n] (Am.size TT 39)) = _
  rw [s39]; rfl
@[simp] theorem store3 (h : H) (b : Nat) (n : Int) : storeAt TT h 3 (i64 n) (.pointer (some ⟨b, 0, none⟩)) = storeIn h b 0 [i64 n] (h.get b) := by
  show onB none (storeIn h b 0 [i64 n] (h.get b)) (fits [i64 n] (Am.size TT 3)) = _
  rw [s3]; rfl
@[simp] theorem storeIn_one (h : H) (b : Nat) (v w : Value) (e : TypeId) (g : Bool) : storeIn h b 0 [v] (some (.cells [w] e g)) = some (h.put b (.cells [v] e g)) := rfl
/-- The round's slots. -/
theorem f22_params (tm0 : Tr Value) (a b : Value) : putAll (lp0 tm0 .ready none).params.toList [a, b] tm0 = some ((tm0.set 27 a).set 28 b) := rfl
section
variable {Z : AObj} {ev : Task → Ans} {s : Scope} {n d : Nat} {x : Term} {tm0 : Tr Value} {h : H} (I : VI Z s n 0 (lp0 tm0 .ready none) h) (ht : TmOk tm0)
include I ht
theorem f22_assign : EndsAs (fun tm1 h1 => VI Z s n 0 (lp0 tm0 .ready none) h1 ∧ TmOk tm1 ∧ tm1.get 13 = some (i64 (d : Nat)) ∧ tm1.get 14 = some (.pointer (some ⟨h.next, 0, none⟩)) ∧ h1.get h.next = some (.cells (cellsL (tv x)) 26 false) ∧ h1.next = h.next + 1 ∧ ∀ j, j < h.next → h1.get j = h.get j) (fun _ _ => False) (fun _ _ _ => False)
    (runCode TT ev ⟨22, some 6⟩ f22A ⟨(tm0.set 27 (i64 (d : Nat))).set 28 (tv x), [], h, none⟩) := by
  obtain ⟨hb, hn, i1, i2, i3, i5, i6, i7, i8, i9, iz⟩ := I
  obtain ⟨t5, t10, t11, t12⟩ := ht
  simp [f22A, rfA, f22RF, piece, sel, sub, Tryz.f22, hb]
  have q1 : ¬ 1 = h.next := by omega
  have q2 : ¬ 2 = h.next := by omega
  have q3 : ¬ 3 = h.next := by omega
  have q5 : ¬ 5 = h.next := by omega
  have q6 : ¬ 6 = h.next := by omega
  have q7 : ¬ 7 = h.next := by omega
  have q8 : ¬ 8 = h.next := by omega
  have q9 : ¬ 9 = h.next := by omega
  have qz : ¬ 0 = h.next := by omega
  exact ⟨⟨by simp [hb], by simp; omega, by simp [q1, i1], by simp [q2, i2], by simp [q3, i3], by simp [q5, i5], by simp [q6, i6], by simp [q7, i7], by simp [q8, i8], by simp [q9, i9], by simp [qz, iz]⟩, ⟨by simp [t5], by simp [t10], by simp [t11], by simp [t12]⟩, fun j hj => by
    have q : ¬ j = h.next := by omega
    simp [q]⟩
end
theorem VI.putLp {Z : AObj} {s : Scope} {n : Nat} {e : Int} {lp : ALoop} {h : H} (I : VI Z s n e lp h) (lp' : ALoop) : VI Z s n e lp' (h.put 6 (.loop lp')) := by
  obtain ⟨hb, hn, i1, i2, i3, i5, i6, i7, i8, i9, iz⟩ := I
  exact ⟨by simp [hb], by simp [hn], by simp [i1], by simp [i2], by simp [i3], by simp [i5], by simp, by simp [i7], by simp [i8], by simp [i9], by simp [iz]⟩
section
variable {Z : AObj} {ev : Task → Ans} {s : Scope} {n d B : Nat} {x : Term} {tm : Tr Value} {lp : ALoop} {h : H} (I : VI Z s n 0 lp h) (ht : TmOk tm) (t13 : tm.get 13 = some (i64 (d : Nat))) (t14 : tm.get 14 = some (.pointer (some ⟨B, 0, none⟩))) (hB : h.get B = some (.cells (cellsL (tv x)) 26 false))
include I ht t13 t14 hB
theorem f22_body (hev : ∀ h, ev (call0 62 [scV s, tv x, i64 (d : Nat)] h) = .ret (i64 (nodeE s.v s.p s.m s.l d x)) h none) (hw : n + 1 ≤ big) :
    EndsAs (fun _ h1 => nodeE s.v s.p s.m s.l d x = 0 ∧ VI Z s (n + 1) 0 lp h1 ∧ ∀ j, 10 ≤ j → h1.get j = h.get j) (fun _ h1 => nodeE s.v s.p s.m s.l d x ≠ 0 ∧ VI Z s n (nodeE s.v s.p s.m s.l d x) lp h1 ∧ ∀ j, 10 ≤ j → h1.get j = h.get j) (fun _ _ _ => False)
      (runCode TT ev ⟨22, some 6⟩ f22Y ⟨tm, [], h, none⟩) := by
  obtain ⟨hb, hn, i1, i2, i3, i5, i6, i7, i8, i9, iz⟩ := I
  obtain ⟨t5, t10, t11, t12⟩ := ht
  have e2 := wrapN hw
  simp at e2
  by_cases c : nodeE s.v s.p s.m s.l d x = 0
  · simp [f22Y, rfB, f22RF, piece, sel, sub, Tryz.f22, hb, t10, t11, t12, t13, t14, hB, i1, i2, i3, hev, c, e2]
    exact ⟨⟨by simp [hb], by simp [hn], by simp [i1], by simp [i2], by simp, by simp [i5], by simp [i6], by simp [i7], by simp [i8], by simp [i9], by simp [iz]⟩, fun j hj => by
      have q : ¬ j = 3 := by omega
      simp [q]⟩
  · simp [f22Y, rfB, f22RF, piece, sel, sub, Tryz.f22, hb, t10, t11, t12, t13, t14, hB, i1, i2, i3, hev, c]
    exact ⟨⟨by simp [hb], by simp [hn], by simp, by simp [i2], by simp [i3], by simp [i5], by simp [i6], by simp [i7], by simp [i8], by simp [i9], by simp [iz]⟩, fun j hj => by
      have q : ¬ j = 1 := by omega
      simp [q]⟩
end
/-- How the walk over a term goes on. -/
def Out (Z : AObj) (tm0 : Tr Value) (s : Scope) (n N : Nat) (c : Int) (ok : Bool) (h' : H) : Prop := (c = 0 ∧ ok = true ∧ VI Z s (n + N) 0 (lp0 tm0 .ready none) h') ∨ (c ≠ 0 ∧ ok = false ∧ ∃ n', VI Z s n' c (lp0 tm0 .done (some .ret)) h')
theorem round22 {Z : AObj} {C : Con} {s : Scope} {n d m : Nat} {x : Term} {tm0 : Tr Value} {h : H} (I : VI Z s n 0 (lp0 tm0 .ready none) h) (ht : TmOk tm0) (hw : n + 1 ≤ big)
    (hev : ∀ n h, evK TT C n (call0 62 [scV s, tv x, i64 (d : Nat)] h) = .ret (i64 (nodeE s.v s.p s.m s.l d x)) h none) :
    ∃ ok h', evK TT C (m + 1) (.call yv [i64 (d : Nat), tv x] h none) = .ret (.bool ok) h' none ∧ Out Z tm0 s n 1 (nodeE s.v s.p s.m s.l d x) ok h' ∧ ∀ j, 10 ≤ j → j < h.next → h'.get j = h.get j := by
  rw [evK_yield, I.lp]
  show ∃ ok h', roundRun TT (evK TT C m) 6 h (lp0 tm0 .ready none) (putAll (lp0 tm0 .ready none).params.toList [i64 (d : Nat), tv x] tm0) (TT.func 22) = _ ∧ _
  rw [f22_params, TT.f22]
  show ∃ ok h', cond (codeOK Tryz.f22.ntmps f22A && codeOK Tryz.f22.ntmps f22Y) (roundBody TT (evK TT C m) 6 (lp0 tm0 .ready none) (runCode TT (evK TT C m) ⟨22, some 6⟩ f22A ⟨(tm0.set 27 (i64 (d : Nat))).set 28 (tv x), [], h.touch 6, none⟩)) .fail = _ ∧ _
  rw [f22_ok, cond_true, touch_low I.base]
  rcases (f22_assign (ev := evK TT C m) (d := d) (x := x) I ht).cases with ⟨tm1, h1, e, J, ht1, t13, t14, hB, hn1, hkeep⟩ | ⟨_, _, _, q⟩ | ⟨_, _, _, _, q⟩
  · rw [e]
    show ∃ ok h', roundBody1 TT (evK TT C m) ⟨tm1, [], h1, none⟩ 6 (lp0 tm0 .ready none) (h1.get 6) = _ ∧ _
    rw [J.lp]
    show ∃ ok h', roundEnd 6 (runCode TT (evK TT C m) ⟨22, some 6⟩ f22Y ⟨tm1, [], h1.put 6 (.loop (lp0 tm0 .busy none)), none⟩) = _ ∧ _
    have J2 := J.putLp (lp0 tm0 .busy none)
    have hB2 : (h1.put 6 (.loop (lp0 tm0 .busy none))).get h.next = some (.cells (cellsL (tv x)) 26 false) := by
      have : ¬ h.next = 6 := by have := I.next; omega
      simp [this, hB]
    rcases (f22_body (ev := evK TT C m) J2 ht1 t13 t14 hB2 (hev m) hw).cases with ⟨tm2, h2, e2, c, K, hk2⟩ | ⟨tm2, h2, e2, c, K, hk2⟩ | ⟨_, _, _, _, q⟩
    · rw [e2]
      show ∃ ok h', roundEnd1 ⟨tm2, [], h2, none⟩ 6 .normal (h2.get 6) = _ ∧ _
      rw [K.lp]
      exact ⟨true, _, rfl, .inl ⟨c, rfl, K.putLp _⟩, fun j h1 h2 => by
        have q : ¬ j = 6 := by omega
        simp [q, hk2 j h1, hkeep j h2]⟩
    · rw [e2]
      show ∃ ok h', roundEnd1 ⟨tm2, [], h2, none⟩ 6 .ret (h2.get 6) = _ ∧ _
      rw [K.lp]
      exact ⟨false, _, rfl, .inr ⟨c, rfl, n, K.putLp _⟩, fun j h1 h2 => by
        have q : ¬ j = 6 := by omega
        simp [q, hk2 j h1, hkeep j h2]⟩
    · cases q
  · cases q
  · cases q
end Go.Proofs.YtkdfgoimgcegfaaGreatDoor
/- Layer 35: the walk over the nodes of a term. -/
namespace Go.Proofs.YtkdfgoimgcegfaaGreatDoor
open Go Go.Am Go.Proofs Go.Am.Sym Go.Am.Eu
set_option maxRecDepth 10000
theorem TT.f121 : TT.func 121 = some Tryz.f121 := by kernel_rfl
theorem agg181 : Am.isAgg TT 181 = some false := by kernel_rfl
theorem agg168 : Am.isAgg TT 168 = some false := by kernel_rfl
@[simp] theorem p181_one (v : Value) : partOf TT 181 [v] 0 = some v := by rw [part_one agg181]; rfl
@[simp] theorem p168_one (v : Value) : partOf TT 168 [v] 0 = some v := by rw [part_one agg168]; rfl
/-- The kid that is below a binder, or -1. -/
def belowI (k : Int) : Int := if 0 ≤ k ∧ k < 13 then (useL k.toNat).2.2.2.2 else -1
theorem belowI_iff (k : Int) (i : Nat) : ((i : Int) = belowI k) = (belowN k i = 1) := by
  apply propext
  unfold belowI
  by_cases hk : 0 ≤ k ∧ k < 13
  · rw [if_pos hk]
    rcases kind_cases hk.1 hk.2 with rfl | rfl | rfl | rfl | rfl | rfl | rfl | rfl | rfl | rfl | rfl | rfl | rfl <;> simp [useL, belowN] <;> omega
  · rw [if_neg hk]
    have : belowN k i = 0 := by unfold belowN; rw [if_neg (by omega)]
    rw [this]; omega
theorem belowN_of {k : Int} {i : Nat} (h : ¬ belowN k i = 1) : belowN k i = 0 := by have := belowN_le k i; omega
theorem idx_kinds (h : H) {k : Int} (h0 : 0 ≤ k) (h1 : k < 13) : indexAddrOf TT h (TT.under 184) (some (.pointer (some ⟨8, 0, none⟩))) (some (i64 k)) = .val (.pointer (some ⟨8, k.toNat * 5, none⟩)) h := by
  rcases kind_cases h0 h1 with rfl | rfl | rfl | rfl | rfl | rfl | rfl | rfl | rfl | rfl | rfl | rfl | rfl <;> kernel_rfl
theorem part_kinds {k : Int} (h0 : 0 ≤ k) (h1 : k < 13) : partOf TT 3 usesL (k.toNat * 5 + 4) = some (i64 (belowI k)) := by
  rw [p3]
  unfold belowI
  rw [if_pos ⟨h0, h1⟩]
  rcases kind_cases h0 h1 with rfl | rfl | rfl | rfl | rfl | rfl | rfl | rfl | rfl | rfl | rfl | rfl | rfl <;> rfl
noncomputable def f121B : Code := piece Tryz.f121 [true,true,true,true,false,true,false,false]
theorem f121_split : Tryz.f121.body = some (.seq (piece Tryz.f121 [false]) (.seq (piece Tryz.f121 [true,false]) (.seq (piece Tryz.f121 [true,true,false]) (.seq (piece Tryz.f121 [true,true,true,false]) (.seq (.seq (piece Tryz.f121 [true,true,true,true,false,false]) (.block 0 (.loop f121B))) (piece Tryz.f121 [true,true,true,true,true])))))) := rfl
structure VsSt (t : Term) (d T : Nat) (tm : Tr Value) (h : H) : Prop where
  t1 : tm.get 1 = some (i64 (d : Nat))
  t2 : tm.get 2 = some (.pointer (some ⟨7, 0, none⟩))
  t3 : tm.get 3 = some (.pointer (some ⟨8, 0, none⟩))
  t4 : tm.get 4 = some (.pointer (some ⟨9, 0, none⟩))
  t5 : tm.get 5 = some (.pointer (some ⟨T, 0, none⟩))
  cell : h.get T = some (.cells (cellsL (tv t)) 26 false)
structure VlSt (t : Term) (d i : Nat) (tm : Tr Value) : Prop where
  t1 : tm.get 1 = some (i64 (d : Nat))
  t4 : tm.get 4 = some (.pointer (some ⟨9, 0, none⟩))
  t8 : tm.get 8 = some (i64 (belowI t.kind))
  t31 : tm.get 31 = some (termsV t.kids)
  t32 : tm.get 32 = some (i64 (t.kids.length : Nat))
  t33 : tm.get 33 = some (i64 (i : Nat))
theorem nodes_rest : ∀ {l : List Term} {i : Nat} (hi : i < l.length), nodes l[i] + (l.length - 1) ≤ nodesL l
  | t :: r, 0, _ => by have := length_le r; rw [nodesL_cons]; simp; exact this
  | t :: r, i + 1, h => by
    have ih := nodes_rest (l := r) (i := i) (by simpa using h)
    have h1 : 1 ≤ nodes t := by cases t; rw [nodes_mk]; omega
    have h2 : 0 < r.length := by simp at h; omega
    rw [nodesL_cons]; simp; omega
theorem VI.new {Z : AObj} {s : Scope} {n : Nat} {e : Int} {lp : ALoop} {h : H} (I : VI Z s n e lp h) (o : AObj) : VI Z s n e lp (h.new o) := by
  obtain ⟨hb, hn, i1, i2, i3, i5, i6, i7, i8, i9, iz⟩ := I
  have q1 : ¬ 1 = h.next := by omega
  have q2 : ¬ 2 = h.next := by omega
  have q3 : ¬ 3 = h.next := by omega
  have q5 : ¬ 5 = h.next := by omega
  have q6 : ¬ 6 = h.next := by omega
  have q7 : ¬ 7 = h.next := by omega
  have q8 : ¬ 8 = h.next := by omega
  have q9 : ¬ 9 = h.next := by omega
  have qz : ¬ 0 = h.next := by omega
  exact ⟨by simp [hb], by simp; omega, by simp [q1, i1], by simp [q2, i2], by simp [q3, i3], by simp [q5, i5], by simp [q6, i6], by simp [q7, i7], by simp [q8, i8], by simp [q9, i9], by simp [qz, iz]⟩
theorem VI.put {Z : AObj} {s : Scope} {n b : Nat} {e : Int} {lp : ALoop} {h : H} (I : VI Z s n e lp h) (hb10 : 10 ≤ b) (o : AObj) : VI Z s n e lp (h.put b o) := by
  obtain ⟨hb, hn, i1, i2, i3, i5, i6, i7, i8, i9, iz⟩ := I
  have q1 : ¬ 1 = b := by omega
  have q2 : ¬ 2 = b := by omega
  have q3 : ¬ 3 = b := by omega
  have q5 : ¬ 5 = b := by omega
  have q6 : ¬ 6 = b := by omega
  have q7 : ¬ 7 = b := by omega
  have q8 : ¬ 8 = b := by omega
  have q9 : ¬ 9 = b := by omega
  have qz : ¬ 0 = b := by omega
  exact ⟨by simp [hb], by simp [hn], by simp [q1, i1], by simp [q2, i2], by simp [q3, i3], by simp [q5, i5], by simp [q6, i6], by simp [q7, i7], by simp [q8, i8], by simp [q9, i9], by simp [qz, iz]⟩
section
variable {Z : AObj} {ev : Task → Ans} {s : Scope} {n d T i : Nat} {t : Term} {tm tm0 : Tr Value} {h : H}
theorem f121_p0 (I : VI Z s n 0 (lp0 tm0 .ready none) h) : EndsAs (fun tm' h' => (VI Z s n 0 (lp0 tm0 .ready none) h' ∧ VsSt t d h.next tm' h') ∧ h'.next = h.next + 1) (fun _ _ => False) (fun _ _ _ => False)
    (runCode TT ev ⟨121, none⟩ (piece Tryz.f121 [false]) ⟨initT [tv t, i64 (d : Nat), .pointer (some ⟨7, 0, none⟩), .pointer (some ⟨8, 0, none⟩), .pointer (some ⟨9, 0, none⟩)] 0 .nil, [], h, none⟩) := by
  simp [piece, sel, sub, Tryz.f121]
  exact ⟨I.new _, by simp, by simp, by simp, by simp, by simp, by simp⟩
theorem f121_p2 (I : VI Z s n 0 (lp0 tm0 .ready none) h ∧ VsSt t d T tm h) : EndsAs (fun tm' h' => VI Z s n 0 (lp0 tm0 .ready none) h' ∧ VsSt t d T tm' h' ∧ tm'.get 8 = some (i64 (-1))) (fun _ _ => False) (fun _ _ _ => False)
    (runCode TT ev ⟨121, none⟩ (piece Tryz.f121 [true,true,false]) ⟨tm, [], h, none⟩) := by
  obtain ⟨I, t1, t2, t3, t4, t5, hc⟩ := I
  simp [piece, sel, sub, Tryz.f121]
  exact ⟨I, by simp [t1], by simp [t2], by simp [t3], by simp [t4], by simp [t5], hc⟩
theorem f121_p3 (I : VI Z s n 0 (lp0 tm0 .ready none) h ∧ VsSt t d T tm h ∧ tm.get 8 = some (i64 (-1))) : EndsAs (fun tm' h' => VI Z s n 0 (lp0 tm0 .ready none) h' ∧ VsSt t d T tm' h' ∧ tm'.get 8 = some (i64 (belowI t.kind))) (fun _ _ => False) (fun _ _ _ => False)
    (runCode TT ev ⟨121, none⟩ (piece Tryz.f121 [true,true,true,false]) ⟨tm, [], h, none⟩) := by
  obtain ⟨I, ⟨t1, t2, t3, t4, t5, hc⟩, t8⟩ := I
  have hb := I.base
  have h8 := I.ks
  by_cases h0 : 0 ≤ t.kind
  · by_cases h1 : t.kind < 13
    · have e1 := part_kinds h0 h1
      have e2 := idx_kinds h h0 h1
      simp [piece, sel, sub, Tryz.f121, t5, hc, hb, h0, h1, t3, e1, e2, h8]
      exact ⟨I, by simp [t1], by simp [t2], by simp [t3], by simp [t4], by simp [t5], hc⟩
    · have e : belowI t.kind = -1 := by unfold belowI; rw [if_neg (by omega)]
      simp [piece, sel, sub, Tryz.f121, t5, hc, hb, h0, h1, t8, e]
      exact ⟨I, by simp [t1], by simp [t2], by simp [t3], by simp [t4], by simp [t5], hc⟩
  · have e : belowI t.kind = -1 := by unfold belowI; rw [if_neg (by omega)]
    simp [piece, sel, sub, Tryz.f121, t5, hc, hb, h0, t8, e]
    exact ⟨I, by simp [t1], by simp [t2], by simp [t3], by simp [t4], by simp [t5], hc⟩
theorem f121_p4 (I : VI Z s n 0 (lp0 tm0 .ready none) h ∧ VsSt t d T tm h ∧ tm.get 8 = some (i64 (belowI t.kind))) : EndsAs (fun tm' h' => VI Z s n 0 (lp0 tm0 .ready none) h' ∧ VlSt t d 0 tm') (fun _ _ => False) (fun _ _ _ => False)
    (runCode TT ev ⟨121, none⟩ (piece Tryz.f121 [true,true,true,true,false,false]) ⟨tm, [], h, none⟩) := by
  obtain ⟨I, ⟨t1, t2, t3, t4, t5, hc⟩, t8⟩ := I
  have hb := I.base
  simp [piece, sel, sub, Tryz.f121, t5, hc, hb]
  exact ⟨I, by simp [t1], by simp [t4], by simp [t8], by simp, by simp, by simp⟩
/-- A walk over a term, as it is called. -/
def Walks (Z : AObj) (ev : Task → Ans) (tm0 : Tr Value) (s : Scope) (n d : Nat) (x : Term) : Prop :=
  ∀ h, VI Z s n 0 (lp0 tm0 .ready none) h → ∃ ok h', ev (.call vc [tv x, i64 (d : Nat)] h none) = .ret (.bool ok) h' none ∧ Out Z tm0 s n (nodes x) (ckT s.v s.p s.m s.l d x) ok h'
theorem f121_p1 (I : VI Z s n 0 (lp0 tm0 .ready none) h ∧ VsSt t d T tm h) (hT : 10 ≤ T) (hev : ∃ ok h', ev (.call yv [i64 (d : Nat), tv t] h none) = .ret (.bool ok) h' none ∧ Out Z tm0 s n 1 (nodeE s.v s.p s.m s.l d t) ok h' ∧ h'.get T = h.get T) :
    EndsAs (fun tm' h' => nodeE s.v s.p s.m s.l d t = 0 ∧ VI Z s (n + 1) 0 (lp0 tm0 .ready none) h' ∧ VsSt t d T tm' h') (fun tm' h' => nodeE s.v s.p s.m s.l d t ≠ 0 ∧ tm'.get 7 = some (.bool false) ∧ ∃ n', VI Z s n' (nodeE s.v s.p s.m s.l d t) (lp0 tm0 .done (some .ret)) h') (fun _ _ _ => False)
      (runCode TT ev ⟨121, none⟩ (piece Tryz.f121 [true,false]) ⟨tm, [], h, none⟩) := by
  obtain ⟨I, t1, t2, t3, t4, t5, hc⟩ := I
  obtain ⟨ok, h', he, ho, hk⟩ := hev
  have hb := I.base
  have h7 := I.yl
  rcases ho with ⟨c, rfl, J⟩ | ⟨c, rfl, n', J⟩
  · simp [piece, sel, sub, Tryz.f121, t1, t2, t5, hc, hb, h7, he, c]
    exact ⟨J, by simp [t1], by simp [t2], by simp [t3], by simp [t4], by simp [t5], by rw [hk, hc]⟩
  · simp [piece, sel, sub, Tryz.f121, t1, t2, t5, hc, hb, h7, he, c]
    exact ⟨n', J⟩
theorem f121_iter (I : VI Z s n 0 (lp0 tm0 .ready none) h) (st : VlSt t d i tm) (hi : i < t.kids.length) (hw1 : i + 1 ≤ big) (hd : d + 1 ≤ big) (hev : ∀ e, e ≤ 1 → Walks Z ev tm0 s n (d + e) t.kids[i]) :
    EndsAs (fun tm' h' => ckT s.v s.p s.m s.l (d + belowN t.kind i) t.kids[i] = 0 ∧ VI Z s (n + nodes t.kids[i]) 0 (lp0 tm0 .ready none) h' ∧ VlSt t d (i + 1) tm')
      (fun tm' h' => ckT s.v s.p s.m s.l (d + belowN t.kind i) t.kids[i] ≠ 0 ∧ tm'.get 7 = some (.bool false) ∧ ∃ n', VI Z s n' (ckT s.v s.p s.m s.l (d + belowN t.kind i) t.kids[i]) (lp0 tm0 .done (some .ret)) h') (fun _ _ _ => False)
      (runCode TT ev ⟨121, none⟩ f121B ⟨tm, [], h, none⟩) := by
  obtain ⟨t1, t4, t8, t31, t32, t33⟩ := st
  have e2 := wrapN hw1
  simp at e2
  have e3 := wrapN hd
  simp at e3
  have hb := I.base
  have hn := I.next
  have J := (I.new (.cells [i64 0, i64 0, .string ⟨#[]⟩, .slice none 0 0, .slice none 0 0] 26 false)).put (b := h.next) hn (.cells (cellsL (tv t.kids[i])) 26 false)
  have h9 := J.vs
  have eb := belowI_iff t.kind i
  by_cases c1 : belowN t.kind i = 1
  · obtain ⟨ok, h', he, ho⟩ := hev 1 (by omega) _ J
    rw [c1]
    simp at he h9
    simp [c1] at eb
    replace eb := eb.symm
    rcases ho with ⟨c, rfl, K⟩ | ⟨c, rfl, n', K⟩
    · simp [f121B, piece, sel, sub, Tryz.f121, t1, t4, t8, t31, t32, t33, hi, e2, e3, hb, eb, he, h9, c]
      exact ⟨K, by simp [t1], by simp [t4], by simp [t8, eb], by simp [t31], by simp [t32], by simp⟩
    · simp [f121B, piece, sel, sub, Tryz.f121, t1, t4, t8, t31, t32, t33, hi, e2, e3, hb, eb, he, h9, c]
      exact ⟨n', K⟩
  · obtain ⟨ok, h', he, ho⟩ := hev 0 (by omega) _ J
    rw [belowN_of c1]
    simp at he h9
    simp [c1] at eb
    rcases ho with ⟨c, rfl, K⟩ | ⟨c, rfl, n', K⟩
    · simp [f121B, piece, sel, sub, Tryz.f121, t1, t4, t8, t31, t32, t33, hi, e2, e3, hb, eb, he, h9, c]
      exact ⟨by simpa using c, K, by simp [t1], by simp [t4], by simp [t8], by simp [t31], by simp [t32], by simp⟩
    · simp [f121B, piece, sel, sub, Tryz.f121, t1, t4, t8, t31, t32, t33, hi, e2, e3, hb, eb, he, h9, c]
      exact ⟨by simpa using c, n', by simpa using K⟩
theorem f121_end (I : VI Z s n 0 (lp0 tm0 .ready none) h) (st : VlSt t d i tm) (hi : t.kids.length ≤ i) :
    EndsAs (fun _ _ => False) (fun _ _ => False) (fun j _ h' => j = 0 ∧ VI Z s n 0 (lp0 tm0 .ready none) h') (runCode TT ev ⟨121, none⟩ f121B ⟨tm, [], h, none⟩) := by
  obtain ⟨t1, t4, t8, t31, t32, t33⟩ := st
  have hi' : ¬ i < t.kids.length := by omega
  simp [f121B, piece, sel, sub, Tryz.f121, t32, t33, hi', I]
end
theorem nodes_pos (t : Term) : 1 ≤ nodes t := by cases t; rw [nodes_mk]; omega
/-- How often evaluations nest. -/
def fuelN (t : Term) : Nat := 3 * nodes t + 4
theorem walk121 {Z : AObj} {C : Con} {tm0 : Tr Value} {s : Scope} (ht : TmOk tm0) {W : Nat} (hev : ∀ x d n h, wt x < W → evK TT C n (call0 62 [scV s, tv x, i64 (d : Nat)] h) = .ret (i64 (nodeE s.v s.p s.m s.l d x)) h none) :
    ∀ (k : Nat) (t : Term), nodes t ≤ k → wt t < W → ∀ n d m, n + nodes t ≤ big → d + nodes t ≤ big → fuelN t ≤ m → Walks Z (evK TT C m) tm0 s n d t := by
  intro k
  induction k with
  | zero => intro t h; have := nodes_pos t; omega
  | succ k ih =>
    intro t hk hW n d m hn hd hm h I
    unfold fuelN at hm
    have hpos := nodes_pos t
    obtain ⟨m, rfl⟩ : ∃ m', m = m' + 1 := ⟨m - 1, by omega⟩
    rw [evK_clo]
    have hnodes : nodes t = 1 + nodesL t.kids := by cases t; rw [nodes_mk]; rfl
    have key : EndsAs (fun _ _ => False) (fun tm' h' => ∃ ok, tm'.get 7 = some (.bool ok) ∧ Out Z tm0 s n (nodes t) (ckT s.v s.p s.m s.l d t) ok h') (fun _ _ _ => False)
        (runCode TT (evK TT C m) ⟨121, none⟩ (.seq (piece Tryz.f121 [false]) (.seq (piece Tryz.f121 [true,false]) (.seq (piece Tryz.f121 [true,true,false]) (.seq (piece Tryz.f121 [true,true,true,false]) (.seq (.seq (piece Tryz.f121 [true,true,true,true,false,false]) (.block 0 (.loop f121B))) (piece Tryz.f121 [true,true,true,true,true])))))) ⟨initT [tv t, i64 (d : Nat), .pointer (some ⟨7, 0, none⟩), .pointer (some ⟨8, 0, none⟩), .pointer (some ⟨9, 0, none⟩)] 0 .nil, [], h, none⟩) := by
      refine ends_seqC ((f121_p0 I).mono (fun _ _ q => q) (fun _ _ q => q.elim) (fun _ _ _ q => q)) fun tm h1 q0' => ends_seqC ((f121_p1 q0'.1 I.next ?_).mono (fun _ _ q => q) (fun tm _ q => ?_) (fun _ _ _ q => q)) fun tm h2 q1 =>
        ends_seqC ((f121_p2 q1.2).mono (fun _ _ q => q) (fun _ _ q => q.elim) (fun _ _ _ q => q)) fun tm h3 q2 => ends_seqC ((f121_p3 q2).mono (fun _ _ q => q) (fun _ _ q => q.elim) (fun _ _ _ q => q)) fun tm h4 q3 =>
        ends_seqC (N' := fun _ h => ckT s.v s.p s.m s.l d t = 0 ∧ VI Z s (n + nodes t) 0 (lp0 tm0 .ready none) h) (ends_seqC ((f121_p4 q3).mono (fun _ _ q => q) (fun _ _ q => q.elim) (fun _ _ _ q => q)) fun tm h5 q4 => ?_) fun tm h6 q5 => ?_
      · obtain ⟨m2, rfl⟩ : ∃ m', m = m' + 1 := ⟨m - 1, by omega⟩
        obtain ⟨ok, h', e, ho, hkeep⟩ := round22 (m := m2) (d := d) (x := t) q0'.1.1 ht (by omega) (fun n h => hev t d n h hW)
        exact ⟨ok, h', e, ho, hkeep _ I.next (by have := q0'.2; omega)⟩
      · have e : ckT s.v s.p s.m s.l d t = nodeE s.v s.p s.m s.l d t := by rw [ckT_eq, if_pos q.1]
        refine ⟨false, q.2.1, .inr ⟨by rw [e]; exact q.1, rfl, ?_⟩⟩
        rw [e]; exact q.2.2
      · have e : ckT s.v s.p s.m s.l d t = ckL s.v s.p s.m s.l d t.kind 0 t.kids := by rw [ckT_eq, if_neg (fun k => k q1.1)]
        have hlen := length_le t.kids
        refine ends_loop (3 * nodes t + 3 - t.kids.length) (fun j tm h => ∃ i n', j = t.kids.length - i ∧ i ≤ t.kids.length ∧ VI Z s n' 0 (lp0 tm0 .ready none) h ∧ VlSt t d i tm ∧ n' + nodesL (t.kids.drop i) = n + nodes t ∧ ckT s.v s.p s.m s.l d t = ckL s.v s.p s.m s.l d t.kind i (t.kids.drop i)) t.kids.length
          ⟨0, n + 1, by omega, by omega, q4.1, q4.2, by rw [List.drop_zero]; omega, by rw [List.drop_zero]; exact e⟩ (by omega) ?_
        rintro j tm h m ⟨i, n', rfl, hi, J, st, hsum, hck⟩ hm'
        by_cases hlt : i < t.kids.length
        · have hkid : t.kids[i] ∈ t.kids := List.getElem_mem hlt
          have hnk := nodes_kid hkid
          have hsplit : nodesL (t.kids.drop i) = nodes t.kids[i] + nodesL (t.kids.drop (i + 1)) := by rw [List.drop_eq_getElem_cons hlt, nodesL_cons]
          have hrest : nodes t.kids[i] + t.kids.length ≤ nodes t := by
            have h1 : nodes t.kids[i] + (t.kids.length - 1) ≤ nodesL t.kids := nodes_rest hlt
            omega
          refine (f121_iter J st hlt (by omega) (by omega) fun e he => ih t.kids[i] (by omega) (by have := wt_kid hkid; omega) n' (d + e) m (by omega) (by omega) (by unfold fuelN; omega)).mono (fun tm' h' q => ⟨_, by omega, i + 1, n' + nodes t.kids[i], rfl, hlt, q.2.1, q.2.2, by omega, ?_⟩) (fun tm' h' q => ?_) (fun _ _ _ q => q.elim)
          · rw [hck, ckL_drop hlt, if_neg (by simp [q.1])]
          · have e2 : ckT s.v s.p s.m s.l d t = ckT s.v s.p s.m s.l (d + belowN t.kind i) t.kids[i] := by rw [hck, ckL_drop hlt, if_pos q.1]
            refine ⟨false, q.2.1, .inr ⟨by rw [e2]; exact q.1, rfl, ?_⟩⟩
            rw [e2]; exact q.2.2
        · refine (f121_end J st (by omega)).mono (fun _ _ q => q.elim) (fun _ _ q => q.elim) (fun _ _ _ q => ⟨q.1, ?_, ?_⟩)
          · rw [hck, ckL_end (by omega)]
          · have : nodesL (t.kids.drop i) = 0 := by rw [List.drop_eq_nil_of_le (by omega)]; simp [nodesL]
            rw [← hsum, this]; exact q.2
      · simp [piece, sel, sub, Tryz.f121]
        exact .inl ⟨q5.1, rfl, q5.2⟩
    obtain ⟨m, rfl⟩ : ∃ m', m = m' + 1 := ⟨m - 1, by omega⟩
    rcases key.cases with ⟨_, _, _, q⟩ | ⟨tm, h', e, ok, t7, ho⟩ | ⟨_, _, _, _, q⟩
    · cases q
    · refine ⟨ok, h', ?_, ho⟩
      rw [fn_run (vs := [.bool ok]) (h2 := h') (ab := none) TT.f121 f121_split rfl (by rw [show [tv t, i64 (d : Nat)] ++ [Value.pointer (some ⟨7, 0, none⟩), .pointer (some ⟨8, 0, none⟩), .pointer (some ⟨9, 0, none⟩)] = [tv t, i64 (d : Nat), .pointer (some ⟨7, 0, none⟩), .pointer (some ⟨8, 0, none⟩), .pointer (some ⟨9, 0, none⟩)] from rfl, e]; simp [t7])]
      rfl
    · cases q
end Go.Proofs.YtkdfgoimgcegfaaGreatDoor
