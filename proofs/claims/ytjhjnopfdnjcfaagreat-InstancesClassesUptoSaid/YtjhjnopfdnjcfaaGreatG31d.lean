/- Layer 31: the form of a term, a name. -/
import Derived.Test.YtjhjnopfdnjcfaaGreatG31a
set_option linter.unusedVariables false
set_option linter.unusedSimpArgs false
set_option linter.unusedSectionVars false
set_option linter.all false
namespace Go.Proofs.YtjhjnopfdnjcfaaGreat
open Go Go.Am Go.Proofs Go.Am.Sym Go.Am.Eu
set_option maxRecDepth 10000
theorem TT.f29 : TT.func 29 = some Tryz.f29 := by kernel_rfl
theorem TT.f30 : TT.func 30 = some Tryz.f30 := by kernel_rfl
theorem form_fn : ∃ f : Term → Bool, FnC TT Tryz.prog 29 (fun _ => True) (fun x => [tv x]) (fun x => .bool (f x)) := by
  obtain ⟨fv, hv⟩ := kids_fn
  obtain ⟨C, hC, hH⟩ : ∃ C, ConS TT Tryz.prog C ∧ Has C 42 (fun _ : Int => True) (fun y => [i64 y]) (fun y => i64 (fv y)) :=
    ⟨_, addC_sound noC_sound hv, Has.add fun x y e => by simp at e; rw [e]⟩
  refine fnE Value.bool fun t _ => fnE_of tok C hC (.cons (tv_pure t) .nil) (fun _ => .ground rfl) 1 TT.f29 rfl rfl ?_
  have hev := fun n x m => hH.ev (T := TT) n (x := x) trivial m
  simp +contextual [Tryz.f29, condK_if, hev]
  repeat' (first | split | simp +contextual [condK_if, hev, *])
  · exact (Classical.em _).symm
  · by_cases h1 : t.levels = [] <;> by_cases h2 : t.kind = 3 <;> simp [h1, h2]
noncomputable def f30B : Code := piece Tryz.f30 [true,true,true,false,true,false,false]
theorem f30_split : Tryz.f30.body = some (.seq (piece Tryz.f30 [false]) (.seq (piece Tryz.f30 [true,false]) (.seq (piece Tryz.f30 [true,true,false]) (.seq (.seq (piece Tryz.f30 [true,true,true,false,false]) (.block 0 (.loop f30B))) (piece Tryz.f30 [true,true,true,true]))))) := rfl
section
variable {ev : Task → Ans} {s : ByteArray} {i : Nat} {tm : Tr Value} {h : H} {fv : Int → Bool} (hev : ∀ x h, ev (call0 43 [.int .u8 x] h) = .ret (.bool (fv x)) h none)
    (t0 : tm.get 0 = some (.string s)) (t3 : Boo 3 tm) (t4 : tm.get 4 = some (i64 i))
include hev t0 t3 t4
theorem f30_iter (hi : i < s.size) (hw1 : i + 1 ≤ big) :
    EndsAs (fun tm' h' => h' = h ∧ tm'.get 0 = some (.string s) ∧ Boo 3 tm' ∧ tm'.get 4 = some (i64 (i + 1 : Nat))) (fun tm' _ => Boo 2 tm') (fun _ _ _ => False)
      (runCode TT ev ⟨30, none⟩ f30B ⟨tm, [], h, none⟩) := by
  have e2 := wrapN hw1
  simp at e2
  obtain ⟨c, hc⟩ := index_str (T := TT) h 9 s .i64 i hi under_9
  obtain ⟨b, t3⟩ := t3
  cases b
  all_goals
    simp +contextual [f30B, piece, sel, sub, Tryz.f30, t0, t3, t4, hi, hc, hev, e2, condK_if]
    repeat' (first | split | simp +contextual [Boo, t0, t3, t4, hev, e2, condK_if, *])
theorem f30_end (hi : s.size ≤ i) :
    EndsAs (fun _ _ => False) (fun _ _ => False) (fun j tm' h' => j = 0 ∧ h' = h ∧ Boo 3 tm') (runCode TT ev ⟨30, none⟩ f30B ⟨tm, [], h, none⟩) := by
  have hi' : ¬ i < s.size := by omega
  obtain ⟨b, t3⟩ := t3
  simp +contextual [f30B, piece, sel, sub, Tryz.f30, t0, t3, t4, hi', condK_if, Boo]
end
theorem name_fn : ∃ f : ByteArray → Bool, FnC TT Tryz.prog 30 (fun _ => True) (fun x => [.string x]) (fun x => .bool (f x)) := by
  obtain ⟨fv, hv⟩ := letter_fn
  obtain ⟨C, hC, hH⟩ : ∃ C, ConS TT Tryz.prog C ∧ Has C 43 (fun _ : Int => True) (fun y => [.int .u8 y]) (fun y => .bool (fv y)) :=
    ⟨_, addC_sound noC_sound hv, Has.add fun x y e => by simp at e; rw [e]⟩
  refine fnE Value.bool fun s _ => fnE_of tok C hC (.cons (.ground rfl) .nil) (fun _ => .ground rfl) (s.size + 1) TT.f30 f30_split rfl ?_
  have hev := fun n x m => hH.ev (T := TT) n (x := x) trivial m
  simp +contextual [piece, sel, sub, Tryz.f30, condK_if, hev]
  split
  · simp
  · rename_i hsz
    have hs : s.size < big := by
      unfold big
      simp at hsz
      omega
    simp
    generalize hX : runCode TT _ _ (.loop f30B) _ = X
    rcases at_loop hX 0 (fun j tm h => ∃ i : Nat, j = s.size - i ∧ i ≤ s.size ∧ h = H.empty ∧ tm.get 0 = some (.string s) ∧ Boo 3 tm ∧ tm.get 4 = some (i64 i))
        (fun tm _ => Boo 2 tm) (fun j tm h => j = 0 ∧ h = H.empty ∧ Boo 3 tm) s.size ⟨0, by simp [Boo]⟩ (by omega) (by
          rintro j tm h m ⟨i, rfl, hi, rfl, t0, t3, t4⟩ -
          by_cases hlt : i < s.size
          · exact (f30_iter (hev m) t0 t3 t4 hlt (by omega)).mono (fun tm' h' q => ⟨_, by omega, i + 1, rfl, hlt, q⟩) (fun _ _ q => q) (fun _ _ _ q => q.elim)
          · exact (f30_end (hev m) t0 t3 t4 (by omega)).mono (fun _ _ q => q.elim) (fun _ _ q => q.elim) (fun _ _ _ q => q)) with ⟨tm, m, rfl, q⟩ | ⟨j, tm, m, rfl, rfl, rfl, q⟩
    · obtain ⟨b, q⟩ := q
      simp [q]
    · obtain ⟨b, q⟩ := q
      simp [q]
end Go.Proofs.YtjhjnopfdnjcfaaGreat
/- Layer 31: the check of a term. -/
namespace Go.Proofs.YtjhjnopfdnjcfaaGreat
open Go Go.Am Go.Proofs Go.Am.Sym Go.Am.Eu
set_option maxRecDepth 10000
/-! ### How much a term holds -/
def lvlsN (l : List Lvl) : Nat := (l.map fun x => 1 + x.vars.length).sum
theorem lvlsN_mem : ∀ {l : List Lvl} {x : Lvl}, x ∈ l → x.vars.length < lvlsN l
  | y :: l, x, h => by
    simp only [lvlsN, List.map_cons, List.sum_cons]
    rcases List.mem_cons.1 h with rfl | h
    · omega
    · have := lvlsN_mem h; simp only [lvlsN] at this; omega
theorem lvlsN_len : ∀ l : List Lvl, l.length ≤ lvlsN l
  | [] => by simp
  | y :: l => by have := lvlsN_len l; simp only [lvlsN, List.map_cons, List.sum_cons, List.length_cons] at this ⊢; omega
mutual
def wt : Term → Nat
  | .mk _ _ n l ks => 1 + n.size + lvlsN l + wtL ks
def wtL : List Term → Nat
  | [] => 0
  | t :: l => wt t + wtL l
end
theorem wt_mk (k i : Int) (n : ByteArray) (l : List Lvl) (ks : List Term) : wt (.mk k i n l ks) = 1 + n.size + lvlsN l + wtL ks := by simp [wt]
theorem wt_eq (t : Term) : wt t = 1 + t.name.size + lvlsN t.levels + wtL t.kids := by cases t; rw [wt_mk]; rfl
theorem wtL_cons (t : Term) (l : List Term) : wtL (t :: l) = wt t + wtL l := by simp [wtL]
theorem wt_mem : ∀ {l : List Term} {t : Term}, t ∈ l → wt t ≤ wtL l
  | x :: l, t, h => by
    rw [wtL_cons]
    rcases List.mem_cons.1 h with rfl | h
    · omega
    · have := wt_mem h; omega
theorem wt_kid {t x : Term} (h : x ∈ t.kids) : wt x < wt t := by
  rw [wt_eq t]; have := wt_mem h; omega
theorem wtL_len : ∀ l : List Term, l.length ≤ wtL l
  | [] => by simp
  | t :: l => by
    have := wtL_len l
    have h1 : 1 ≤ wt t := by rw [wt_eq]; omega
    rw [wtL_cons, List.length_cons]; omega
theorem wt_kids (t : Term) : t.kids.length < wt t := by rw [wt_eq]; have := wtL_len t.kids; omega
theorem wt_levels (t : Term) : t.levels.length < wt t := by rw [wt_eq]; have := lvlsN_len t.levels; omega
theorem wt_level {t : Term} {x : Lvl} (h : x ∈ t.levels) : x.vars.length < wt t := by rw [wt_eq]; have := lvlsN_mem h; omega
mutual
theorem nodes_le : ∀ t : Term, nodes t ≤ wt t
  | .mk k i n l ks => by rw [nodes_mk, wt_mk]; have := nodesL_le ks; omega
theorem nodesL_le : ∀ l : List Term, nodesL l ≤ wtL l
  | [] => by simp [nodesL, wtL]
  | t :: l => by rw [nodesL_cons, wtL_cons]; have := nodes_le t; have := nodesL_le l; omega
end

/-! ### Depth -/
theorem TT.f13 : TT.func 13 = some Tryz.f13 := by kernel_rfl
noncomputable def f13B : Code := piece Tryz.f13 [true,true,false,true,false,false]
theorem f13_split : Tryz.f13.body = some (.seq (piece Tryz.f13 [false]) (.seq (piece Tryz.f13 [true,false]) (.seq (.seq (piece Tryz.f13 [true,true,false,false]) (.block 0 (.loop f13B))) (piece Tryz.f13 [true,true,true])))) := rfl
section
variable {ev : Task → Ans} {t : Term} {i : Nat} {tm : Tr Value} {h : H} {fv : Term → Int} (hev : ∀ x ∈ t.kids, ∀ h, ev (call0 13 [tv x] h) = .ret (i64 (fv x)) h none)
    (hb : h.base = 0) (hn : 0 < h.next) (h0 : h.get 0 = some (.cells (cellsL (tv t)) 26 false))
    (t1 : tm.get 1 = some (.pointer (some ⟨0, 0, none⟩))) (t3 : Iii 3 tm) (t4 : tm.get 4 = some (i64 i))
include hev hb hn h0 t1 t3 t4
theorem f13_iter (hi : i < t.kids.length) (hw1 : i + 1 ≤ big) :
    EndsAs (fun tm' h' => h' = h ∧ tm'.get 1 = some (.pointer (some ⟨0, 0, none⟩)) ∧ Iii 3 tm' ∧ tm'.get 4 = some (i64 (i + 1 : Nat))) (fun _ _ => False) (fun _ _ _ => False)
      (runCode TT ev ⟨13, none⟩ f13B ⟨tm, [], h, none⟩) := by
  have e2 := wrapN hw1
  simp at e2
  obtain ⟨b, t3⟩ := t3
  simp +contextual [f13B, piece, sel, sub, Tryz.f13, hev, hb, hn, h0, t1, t3, t4, hi, e2, condK_if, Iii]
theorem f13_end (hi : t.kids.length ≤ i) :
    EndsAs (fun _ _ => False) (fun _ _ => False) (fun j tm' h' => j = 0 ∧ h' = h ∧ Iii 3 tm') (runCode TT ev ⟨13, none⟩ f13B ⟨tm, [], h, none⟩) := by
  have hi' : ¬ i < t.kids.length := by omega
  obtain ⟨b, t3⟩ := t3
  simp +contextual [f13B, piece, sel, sub, Tryz.f13, hb, hn, h0, t1, t3, t4, hi', condK_if, Iii]
end
theorem depth_fn : ∃ f : Term → Int, FnC TT Tryz.prog 13 (fun t => wt t < big) (fun t => [tv t]) (fun t => i64 (f t)) := by
  refine fnE_rec i64 wt fun t ht hrec => ?_
  obtain ⟨fv, hrec⟩ := hrec
  obtain ⟨C, hC, hH⟩ : ∃ C, ConS TT Tryz.prog C ∧ Has C 13 (fun y => wt y < wt t ∧ wt y < big) (fun y => [tv y]) (fun y => i64 (fv y)) :=
    ⟨_, addC_sound noC_sound hrec, Has.add fun x y e => by simp at e; rw [tv_inj e]⟩
  refine fnE_of tok C hC (.cons (tv_pure t) .nil) (fun _ => .ground rfl) (t.kids.length + 1) TT.f13 f13_split rfl ?_
  have hk := wt_kids t
  have hev := fun n (x : Term) (hx : x ∈ t.kids) m => hH.ev (T := TT) n (x := x) ⟨wt_kid hx, by have := wt_kid hx; omega⟩ m
  simp +contextual [piece, sel, sub, Tryz.f13, condK_if]
  generalize hX : runCode TT _ _ (.loop f13B) _ = X
  rcases at_loop hX 0 (fun j tm h => ∃ i : Nat, j = t.kids.length - i ∧ i ≤ t.kids.length ∧ h = H.empty.new (.cells (cellsL (tv t)) 26 false) ∧ tm.get 1 = some (.pointer (some ⟨0, 0, none⟩)) ∧ Iii 3 tm ∧ tm.get 4 = some (i64 i))
      (fun _ _ => False) (fun j tm h => j = 0 ∧ h = H.empty.new (.cells (cellsL (tv t)) 26 false) ∧ Iii 3 tm) t.kids.length ⟨0, by simp [Iii]⟩ (by omega) (by
        rintro j tm h m ⟨i, rfl, hi, rfl, t1, t3, t4⟩ -
        by_cases hlt : i < t.kids.length
        · exact (f13_iter (t := t) (hev m) (by simp) (by simp) (by simp) t1 t3 t4 hlt (by omega)).mono (fun tm' h' q => ⟨_, by omega, i + 1, rfl, hlt, q⟩) (fun _ _ q => q) (fun _ _ _ q => q.elim)
        · exact (f13_end (t := t) (hev m) (by simp) (by simp) (by simp) t1 t3 t4 (by omega)).mono (fun _ _ q => q.elim) (fun _ _ q => q.elim) (fun _ _ _ q => q)) with ⟨tm, m, rfl, q⟩ | ⟨j, tm, m, rfl, rfl, rfl, q⟩
  · cases q
  · obtain ⟨b, q⟩ := q
    simp [q]
end Go.Proofs.YtjhjnopfdnjcfaaGreat
/- Layer 31: the check of a term, whole. -/
namespace Go.Proofs.YtjhjnopfdnjcfaaGreat
open Go Go.Am Go.Proofs Go.Am.Sym Go.Am.Eu
set_option maxRecDepth 10000
theorem TT.f12 : TT.func 12 = some Tryz.f12 := by kernel_rfl
theorem TT.f6 : TT.func 6 = some Tryz.f6 := by kernel_rfl
noncomputable def f12B0 : Code := piece Tryz.f12 [true,true,true,true,false,true,false,false]
noncomputable def f12B2 : Code := piece Tryz.f12 [true,true,true,true,true,true,true,false,true,false,false]
theorem f12_split : Tryz.f12.body = some (.seq (piece Tryz.f12 [false]) (.seq (piece Tryz.f12 [true,false]) (.seq (piece Tryz.f12 [true,true,false]) (.seq (piece Tryz.f12 [true,true,true,false])
    (.seq (.seq (piece Tryz.f12 [true,true,true,true,false,false]) (.block 0 (.loop f12B0))) (.seq (piece Tryz.f12 [true,true,true,true,true,false]) (.seq (piece Tryz.f12 [true,true,true,true,true,true,false])
      (.seq (.seq (piece Tryz.f12 [true,true,true,true,true,true,true,false,false]) (.block 2 (.loop f12B2))) (piece Tryz.f12 [true,true,true,true,true,true,true,true]))))))))) := rfl
/-- What the check is asked of. -/
structure CkArg where
  t : Term
  d : Int
  a : Int
  b : Int
  c : Int
  e : Int
def CkArg.enc (x : CkArg) : List Value := [tv x.t, i64 x.d, i64 x.a, i64 x.b, i64 x.c, i64 x.e]
theorem CkArg.enc_inj {x y : CkArg} (h : x.enc = y.enc) : x = y := by
  cases x; cases y
  simp [CkArg.enc] at h
  obtain ⟨h0, h1, h2, h3, h4, h5⟩ := h
  rw [tv_inj h0, h1, h2, h3, h4, h5]
/-- The slots that stay. -/
def CkSt (x : CkArg) (tm : Tr Value) : Prop :=
  tm.get 1 = some (i64 x.d) ∧ tm.get 2 = some (i64 x.a) ∧ tm.get 3 = some (i64 x.b) ∧ tm.get 4 = some (i64 x.c) ∧ tm.get 5 = some (i64 x.e) ∧ tm.get 6 = some (.pointer (some ⟨0, 0, none⟩))
section
variable {ev : Task → Ans} {x : CkArg} {i : Nat} {tm : Tr Value} {h : H} (hb : h.base = 0) (hn : 0 < h.next) (h0 : h.get 0 = some (.cells (cellsL (tv x.t)) 26 false)) (st : CkSt x tm)
include hb hn h0 st
theorem f12_iter0 {fv : Lvl × Int × Int → Int} (hev : ∀ y ∈ x.t.levels, ∀ p q h, ev (call0 31 [lvlV y, i64 p, i64 q] h) = .ret (i64 (fv (y, p, q))) h none) (t13 : tm.get 13 = some (i64 i)) (hi : i < x.t.levels.length) (hw1 : i + 1 ≤ big) :
    EndsAs (fun tm' h' => h' = h ∧ CkSt x tm' ∧ tm'.get 13 = some (i64 (i + 1 : Nat))) (fun tm' _ => Iii 12 tm') (fun _ _ _ => False)
      (runCode TT ev ⟨12, none⟩ f12B0 ⟨tm, [], h, none⟩) := by
  have e2 := wrapN hw1
  simp at e2
  obtain ⟨s1, s2, s3, s4, s5, s6⟩ := st
  simp +contextual [f12B0, piece, sel, sub, Tryz.f12, hev, hb, hn, h0, s1, s2, s3, s4, s5, s6, t13, hi, e2, condK_if, CkSt]
  repeat' (first | split | simp +contextual [Iii, CkSt, s1, s2, s3, s4, s5, s6, h0, hb, hn, e2, condK_if, *])
theorem f12_end0 (t13 : tm.get 13 = some (i64 i)) (hi : x.t.levels.length ≤ i) :
    EndsAs (fun _ _ => False) (fun _ _ => False) (fun j tm' h' => j = 0 ∧ h' = h ∧ CkSt x tm') (runCode TT ev ⟨12, none⟩ f12B0 ⟨tm, [], h, none⟩) := by
  have hi' : ¬ i < x.t.levels.length := by omega
  obtain ⟨s1, s2, s3, s4, s5, s6⟩ := st
  simp +contextual [f12B0, piece, sel, sub, Tryz.f12, hb, hn, h0, s1, s2, s3, s4, s5, s6, t13, hi', condK_if, CkSt]
theorem f12_iter2 {fb : Int × Int → Int} {fr : CkArg → Int} (hev : ∀ p q h, ev (call0 32 [i64 p, i64 q] h) = .ret (i64 (fb (p, q))) h none)
    (her : ∀ y ∈ x.t.kids, ∀ d a b c e h, ev (call0 12 [tv y, i64 d, i64 a, i64 b, i64 c, i64 e] h) = .ret (i64 (fr ⟨y, d, a, b, c, e⟩)) h none) (t15 : tm.get 15 = some (i64 i)) (hi : i < x.t.kids.length) (hw1 : i + 1 ≤ big) :
    EndsAs (fun tm' h' => h' = h ∧ CkSt x tm' ∧ tm'.get 15 = some (i64 (i + 1 : Nat))) (fun tm' _ => Iii 12 tm') (fun _ _ _ => False)
      (runCode TT ev ⟨12, none⟩ f12B2 ⟨tm, [], h, none⟩) := by
  have e2 := wrapN hw1
  simp at e2
  obtain ⟨s1, s2, s3, s4, s5, s6⟩ := st
  simp +contextual [f12B2, piece, sel, sub, Tryz.f12, hev, her, hb, hn, h0, s1, s2, s3, s4, s5, s6, t15, hi, e2, condK_if, CkSt]
  repeat' (first | split | simp +contextual [Iii, CkSt, s1, s2, s3, s4, s5, s6, h0, hb, hn, e2, condK_if, *])
theorem f12_end2 (t15 : tm.get 15 = some (i64 i)) (hi : x.t.kids.length ≤ i) :
    EndsAs (fun _ _ => False) (fun _ _ => False) (fun j tm' h' => j = 2 ∧ h' = h ∧ CkSt x tm') (runCode TT ev ⟨12, none⟩ f12B2 ⟨tm, [], h, none⟩) := by
  have hi' : ¬ i < x.t.kids.length := by omega
  obtain ⟨s1, s2, s3, s4, s5, s6⟩ := st
  simp +contextual [f12B2, piece, sel, sub, Tryz.f12, hb, hn, h0, s1, s2, s3, s4, s5, s6, t15, hi', condK_if, CkSt]
end
noncomputable def ckH (t : Term) : H := H.empty.new (.cells (cellsL (tv t)) 26 false)
@[simp] theorem ckH_base (t : Term) : (ckH t).base = 0 := by simp [ckH]
@[simp] theorem ckH_next (t : Term) : (ckH t).next = 1 := by simp [ckH]
@[simp] theorem ckH_get (t : Term) : (ckH t).get 0 = some (.cells (cellsL (tv t)) 26 false) := by simp [ckH]
section
variable {ev : Task → Ans} {x : CkArg} {tm : Tr Value} {h : H} (hI : h = ckH x.t ∧ CkSt x tm)
include hI
theorem f12_p1 {f : Bool} (hev : ∀ h, ev (call0 29 [tv x.t] h) = .ret (.bool f) h none) :
    EndsAs (fun tm h => h = ckH x.t ∧ CkSt x tm) (fun tm _ => Iii 12 tm) (fun _ _ _ => False) (runCode TT ev ⟨12, none⟩ (piece Tryz.f12 [true,false]) ⟨tm, [], h, none⟩) := by
  obtain ⟨rfl, s1, s2, s3, s4, s5, s6⟩ := hI
  cases f
  all_goals simp +contextual [piece, sel, sub, Tryz.f12, hev, s1, s2, s3, s4, s5, s6, condK_if, CkSt, Iii]
theorem f12_p2 {f : Bool} (hev : ∀ h, ev (call0 30 [.string x.t.name] h) = .ret (.bool f) h none) :
    EndsAs (fun tm h => h = ckH x.t ∧ CkSt x tm) (fun tm _ => Iii 12 tm) (fun _ _ _ => False) (runCode TT ev ⟨12, none⟩ (piece Tryz.f12 [true,true,false]) ⟨tm, [], h, none⟩) := by
  obtain ⟨rfl, s1, s2, s3, s4, s5, s6⟩ := hI
  simp +contextual [piece, sel, sub, Tryz.f12, hev, s1, s2, s3, s4, s5, s6, condK_if, CkSt, Iii]
  repeat' (first | split | simp +contextual [Iii, CkSt, s1, s2, s3, s4, s5, s6])
theorem f12_p3 : EndsAs (fun tm h => h = ckH x.t ∧ CkSt x tm) (fun tm _ => Iii 12 tm) (fun _ _ _ => False) (runCode TT ev ⟨12, none⟩ (piece Tryz.f12 [true,true,true,false]) ⟨tm, [], h, none⟩) := by
  obtain ⟨rfl, s1, s2, s3, s4, s5, s6⟩ := hI
  simp +contextual [piece, sel, sub, Tryz.f12, s1, s2, s3, s4, s5, s6, condK_if, CkSt, Iii]
  repeat' (first | split | simp +contextual [Iii, CkSt, s1, s2, s3, s4, s5, s6])
theorem f12_p4 : EndsAs (fun tm h => h = ckH x.t ∧ CkSt x tm ∧ tm.get 13 = some (i64 (0 : Nat))) (fun tm _ => Iii 12 tm) (fun _ _ _ => False) (runCode TT ev ⟨12, none⟩ (piece Tryz.f12 [true,true,true,true,false,false]) ⟨tm, [], h, none⟩) := by
  obtain ⟨rfl, s1, s2, s3, s4, s5, s6⟩ := hI
  simp +contextual [piece, sel, sub, Tryz.f12, s1, s2, s3, s4, s5, s6, condK_if, CkSt, Iii]
theorem f12_p5 : EndsAs (fun tm h => h = ckH x.t ∧ CkSt x tm) (fun tm _ => Iii 12 tm) (fun _ _ _ => False) (runCode TT ev ⟨12, none⟩ (piece Tryz.f12 [true,true,true,true,true,false]) ⟨tm, [], h, none⟩) := by
  obtain ⟨rfl, s1, s2, s3, s4, s5, s6⟩ := hI
  simp +contextual [piece, sel, sub, Tryz.f12, s1, s2, s3, s4, s5, s6, condK_if, CkSt, Iii]
  repeat' (first | split | simp +contextual [Iii, CkSt, s1, s2, s3, s4, s5, s6])
theorem f12_p6 : EndsAs (fun tm h => h = ckH x.t ∧ CkSt x tm) (fun tm _ => Iii 12 tm) (fun _ _ _ => False) (runCode TT ev ⟨12, none⟩ (piece Tryz.f12 [true,true,true,true,true,true,false]) ⟨tm, [], h, none⟩) := by
  obtain ⟨rfl, s1, s2, s3, s4, s5, s6⟩ := hI
  simp +contextual [piece, sel, sub, Tryz.f12, s1, s2, s3, s4, s5, s6, condK_if, CkSt, Iii]
  repeat' (first | split | simp +contextual [Iii, CkSt, s1, s2, s3, s4, s5, s6])
theorem f12_p7 : EndsAs (fun tm h => h = ckH x.t ∧ CkSt x tm ∧ tm.get 15 = some (i64 (0 : Nat))) (fun tm _ => Iii 12 tm) (fun _ _ _ => False) (runCode TT ev ⟨12, none⟩ (piece Tryz.f12 [true,true,true,true,true,true,true,false,false]) ⟨tm, [], h, none⟩) := by
  obtain ⟨rfl, s1, s2, s3, s4, s5, s6⟩ := hI
  simp +contextual [piece, sel, sub, Tryz.f12, s1, s2, s3, s4, s5, s6, condK_if, CkSt, Iii]
theorem f12_p8 : EndsAs (fun _ _ => False) (fun tm _ => Iii 12 tm) (fun _ _ _ => False) (runCode TT ev ⟨12, none⟩ (piece Tryz.f12 [true,true,true,true,true,true,true,true]) ⟨tm, [], h, none⟩) := by
  obtain ⟨rfl, s1, s2, s3, s4, s5, s6⟩ := hI
  simp +contextual [piece, sel, sub, Tryz.f12, s1, s2, s3, s4, s5, s6, condK_if, CkSt, Iii]
end
theorem f12_p0 {ev : Task → Ans} {x : CkArg} : EndsAs (fun tm h => h = ckH x.t ∧ CkSt x tm) (fun _ _ => False) (fun _ _ _ => False) (runCode TT ev ⟨12, none⟩ (piece Tryz.f12 [false]) ⟨initT x.enc 0 .nil, [], H.empty, none⟩) := by
  simp [piece, sel, sub, Tryz.f12, CkSt, CkArg.enc, ckH]
theorem check_fn : ∃ f : CkArg → Int, FnC TT Tryz.prog 12 (fun x => wt x.t < big) CkArg.enc (fun x => i64 (f x)) := by
  refine fnE_rec i64 (fun x => wt x.t) fun x ht hrec => ?_
  obtain ⟨fr, hrec⟩ := hrec
  obtain ⟨f29, h29⟩ := form_fn
  obtain ⟨f30, h30⟩ := name_fn
  obtain ⟨f31, h31⟩ := level_fn
  obtain ⟨f32, h32⟩ := below_fn
  obtain ⟨C, hC, hH12, hH29, hH30, hH31, hH32⟩ : ∃ C, ConS TT Tryz.prog C ∧ Has C 12 (fun y : CkArg => wt y.t < wt x.t ∧ wt y.t < big) CkArg.enc (fun y => i64 (fr y)) ∧ Has C 29 (fun _ : Term => True) (fun y => [tv y]) (fun y => .bool (f29 y)) ∧
      Has C 30 (fun _ : ByteArray => True) (fun y => [.string y]) (fun y => .bool (f30 y)) ∧ Has C 31 (fun y : Lvl × Int × Int => y.1.vars.length < big) (fun y => [lvlV y.1, i64 y.2.1, i64 y.2.2]) (fun y => i64 (f31 y)) ∧
      Has C 32 (fun _ : Int × Int => True) (fun y => [i64 y.1, i64 y.2]) (fun y => i64 (f32 y)) :=
    ⟨_, addC_sound (addC_sound (addC_sound (addC_sound (addC_sound noC_sound hrec) h29) h30) h31) h32,
      .skip (by decide) (.skip (by decide) (.skip (by decide) (.skip (by decide) (.add fun x y e => by rw [CkArg.enc_inj e])))),
      .skip (by decide) (.skip (by decide) (.skip (by decide) (.add fun x y e => by simp at e; rw [tv_inj e]))),
      .skip (by decide) (.skip (by decide) (.add fun x y e => by simp at e; rw [e])),
      .skip (by decide) (.add fun x y e => by
        obtain ⟨x1, x2, x3⟩ := x; obtain ⟨y1, y2, y3⟩ := y
        simp at e; rw [lvlV_inj e.1, e.2.1, e.2.2]),
      .add fun x y e => by
        obtain ⟨x1, x2⟩ := x; obtain ⟨y1, y2⟩ := y
        simp at e; rw [e.1, e.2]⟩
  have ht : wt x.t < big := ht
  have hk := wt_kids x.t
  have hl := wt_levels x.t
  refine fnE_ends tok C hC (.cons (tv_pure x.t) (.cons (.ground rfl) (.cons (.ground rfl) (.cons (.ground rfl) (.cons (.ground rfl) (.cons (.ground rfl) .nil)))))) (fun _ => .ground rfl) (x.t.kids.length + x.t.levels.length + 1) TT.f12 f12_split rfl ?_
  have e29 := fun n m => hH29.ev (T := TT) n (x := x.t) trivial m
  have e30 := fun n m => hH30.ev (T := TT) n (x := x.t.name) trivial m
  have e31 := fun n (y : Lvl) (hy : y ∈ x.t.levels) p q m => hH31.ev (T := TT) n (x := (y, p, q)) (by have := wt_level hy; show y.vars.length < big; omega) m
  have e32 := fun n p q m => hH32.ev (T := TT) n (x := (p, q)) trivial m
  have e12 := fun n (y : Term) (hy : y ∈ x.t.kids) d a b c e m => hH12.ev (T := TT) n (x := ⟨y, d, a, b, c, e⟩) ⟨wt_kid hy, by have := wt_kid hy; show wt y < big; omega⟩ m
  refine (ends_seqC (f12_p0.mono (fun _ _ q => q) (fun _ _ q => q.elim) (fun _ _ _ q => q)) fun tm h hI => ends_seqC (f12_p1 hI (e29 _)) fun tm h hI => ends_seqC (f12_p2 hI (e30 _)) fun tm h hI => ends_seqC (f12_p3 hI) fun tm h hI =>
    ends_seqC (ends_seqC (f12_p4 hI) fun tm h hI => ends_loop (N := fun tm h => h = ckH x.t ∧ CkSt x tm) 0 (fun j tm h => ∃ i : Nat, j = x.t.levels.length - i ∧ i ≤ x.t.levels.length ∧ h = ckH x.t ∧ CkSt x tm ∧ tm.get 13 = some (i64 i)) x.t.levels.length ⟨0, by omega, by omega, hI⟩ (by omega) ?_) fun tm h hI =>
    ends_seqC (f12_p5 hI) fun tm h hI => ends_seqC (f12_p6 hI) fun tm h hI =>
    ends_seqC (ends_seqC (f12_p7 hI) fun tm h hI => ends_loop (N := fun tm h => h = ckH x.t ∧ CkSt x tm) 0 (fun j tm h => ∃ i : Nat, j = x.t.kids.length - i ∧ i ≤ x.t.kids.length ∧ h = ckH x.t ∧ CkSt x tm ∧ tm.get 15 = some (i64 i)) x.t.kids.length ⟨0, by omega, by omega, hI⟩ (by omega) ?_) fun tm h hI =>
    f12_p8 hI).mono (fun _ _ q => q.elim) (fun _ _ q => q) (fun _ _ _ q => q)
  · rintro j tm h m ⟨i, rfl, hi, rfl, st, t⟩ -
    by_cases hlt : i < x.t.levels.length
    · exact (f12_iter0 (by simp) (by simp) (by simp) st (fun y hy p q h => e31 m y hy p q h) t hlt (by omega)).mono (fun tm' h' q => ⟨_, by omega, i + 1, rfl, hlt, q⟩) (fun _ _ q => q) (fun _ _ _ q => q.elim)
    · exact (f12_end0 (by simp) (by simp) (by simp) st t (by omega)).mono (fun _ _ q => q.elim) (fun _ _ q => q.elim) (fun _ _ _ q => q)
  · rintro j tm h m ⟨i, rfl, hi, rfl, st, t⟩ -
    by_cases hlt : i < x.t.kids.length
    · exact (f12_iter2 (by simp) (by simp) (by simp) st (e32 m) (e12 m) t hlt (by omega)).mono (fun tm' h' q => ⟨_, by omega, i + 1, rfl, hlt, q⟩) (fun _ _ q => q) (fun _ _ _ q => q.elim)
    · exact (f12_end2 (by simp) (by simp) (by simp) st t (by omega)).mono (fun _ _ q => q.elim) (fun _ _ q => q.elim) (fun _ _ _ q => q)
end Go.Proofs.YtjhjnopfdnjcfaaGreat
