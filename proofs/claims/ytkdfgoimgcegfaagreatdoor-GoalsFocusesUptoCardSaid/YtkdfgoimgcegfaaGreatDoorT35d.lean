/- Layer 35: tables: goals, metavariables, equations, bounds, in memory. -/
import Derived.Test.YtkdfgoimgcegfaaGreatDoorE35v
import Derived.Test.YtkdfgoimgcegfaaGreatDoorE35t
import Derived.Test.YtkdfgoimgcegfaaGreatDoorAmTask
import Derived.Test.YtkdfgoimgcegfaaGreatDoorE35u
import Derived.Test.YtkdfgoimgcegfaaGreatDoorE35k
set_option linter.unusedSectionVars false
set_option linter.unusedSimpArgs false
set_option linter.unusedVariables false
namespace Go.Proofs.YtkdfgoimgcegfaaGreatDoor
open Go Go.Am Go.Proofs Go.Am.Sym Go.Am.Eu
set_option maxRecDepth 10000
section
variable (h : H) (b o : Nat)
@[simp] theorem fa_58_0 : fieldAddrOf TT h 58 0 (some (.pointer (some ⟨b, o, none⟩))) = .val (.pointer (some ⟨b, o + 0, none⟩)) h := by kernel_rfl
@[simp] theorem fa_58_1 : fieldAddrOf TT h 58 1 (some (.pointer (some ⟨b, o, none⟩))) = .val (.pointer (some ⟨b, o + 1, none⟩)) h := by kernel_rfl
@[simp] theorem fa_58_2 : fieldAddrOf TT h 58 2 (some (.pointer (some ⟨b, o, none⟩))) = .val (.pointer (some ⟨b, o + 2, none⟩)) h := by kernel_rfl
@[simp] theorem fa_58_3 : fieldAddrOf TT h 58 3 (some (.pointer (some ⟨b, o, none⟩))) = .val (.pointer (some ⟨b, o + 3, none⟩)) h := by kernel_rfl
@[simp] theorem fa_133_0 : fieldAddrOf TT h 133 0 (some (.pointer (some ⟨b, o, none⟩))) = .val (.pointer (some ⟨b, o + 0, none⟩)) h := by kernel_rfl
@[simp] theorem fa_133_1 : fieldAddrOf TT h 133 1 (some (.pointer (some ⟨b, o, none⟩))) = .val (.pointer (some ⟨b, o + 2, none⟩)) h := by kernel_rfl
end
@[simp] theorem z58 : zero TT 58 = some (.agg ⟨[i64 0, sn, sn, i64 0, i64 0, se, sn, sn]⟩) := by kernel_rfl
@[simp] theorem z64 : zero TT 64 = some (.agg ⟨[i64 0, i64 0, se, sn, sn, .bool false, i64 0, i64 0, se, sn, sn, .bool false]⟩) := by kernel_rfl
@[simp] theorem z130 : zero TT 130 = some (.agg ⟨[sn, i64 0, i64 0, se, sn, sn, i64 0, i64 0, se, sn, sn, .bool false]⟩) := by kernel_rfl
@[simp] theorem z133 : zero TT 133 = some (.agg ⟨[i64 0, sn, i64 0, sn]⟩) := by kernel_rfl
theorem agg_gc (x : Goal) : goalV x = .agg ⟨gc x⟩ := rfl
@[simp] theorem p58_goal (x : Goal) : partOf TT 58 (cellsL (goalV x)) 0 = some (goalV x) := by rw [part_agg agg58 s58]; rfl
@[simp] theorem p133_bound (x : Bound) : partOf TT 133 (cellsL (boundV x)) 0 = some (boundV x) := by rw [part_agg agg133 s133]; rfl
@[simp] theorem store58 {h : H} {b : Nat} (x : Goal) : storeAt TT h 58 (goalV x) (.pointer (some ⟨b, 0, none⟩)) = storeIn h b 0 (cellsL (goalV x)) (h.get b) := by
  show onB none (storeIn h b 0 (cellsL (goalV x)) (h.get b)) (fits (cellsL (goalV x)) (Am.size TT 58)) = _
  rw [s58]; rfl
@[simp] theorem store64 {h : H} {b : Nat} (x : Meta) : storeAt TT h 64 (metaV x) (.pointer (some ⟨b, 0, none⟩)) = storeIn h b 0 (cellsL (metaV x)) (h.get b) := by
  show onB none (storeIn h b 0 (cellsL (metaV x)) (h.get b)) (fits (cellsL (metaV x)) (Am.size TT 64)) = _
  rw [s64]; rfl
@[simp] theorem store130 {h : H} {b : Nat} (x : Eqn) : storeAt TT h 130 (eqnV x) (.pointer (some ⟨b, 0, none⟩)) = storeIn h b 0 (cellsL (eqnV x)) (h.get b) := by
  show onB none (storeIn h b 0 (cellsL (eqnV x)) (h.get b)) (fits (cellsL (eqnV x)) (Am.size TT 130)) = _
  rw [s130]; rfl
@[simp] theorem store133 {h : H} {b : Nat} (x : Bound) : storeAt TT h 133 (boundV x) (.pointer (some ⟨b, 0, none⟩)) = storeIn h b 0 (cellsL (boundV x)) (h.get b) := by
  show onB none (storeIn h b 0 (cellsL (boundV x)) (h.get b)) (fits (cellsL (boundV x)) (Am.size TT 133)) = _
  rw [s133]; rfl
@[simp] theorem storeIn_goal (h : H) (b : Nat) (x : Goal) (c1 c2 c3 c4 c5 c6 c7 c8 : Value) (e : TypeId) (g : Bool) : storeIn h b 0 (cellsL (goalV x)) (some (.cells [c1, c2, c3, c4, c5, c6, c7, c8] e g)) = some (h.put b (.cells (cellsL (goalV x)) e g)) := rfl
@[simp] theorem storeIn_meta (h : H) (b : Nat) (x : Meta) (c1 c2 c3 c4 c5 c6 c7 c8 c9 d1 d2 d3 : Value) (e : TypeId) (g : Bool) : storeIn h b 0 (cellsL (metaV x)) (some (.cells [c1, c2, c3, c4, c5, c6, c7, c8, c9, d1, d2, d3] e g)) = some (h.put b (.cells (cellsL (metaV x)) e g)) := rfl
@[simp] theorem storeIn_eqn (h : H) (b : Nat) (x : Eqn) (c1 c2 c3 c4 c5 c6 c7 c8 c9 d1 d2 d3 : Value) (e : TypeId) (g : Bool) : storeIn h b 0 (cellsL (eqnV x)) (some (.cells [c1, c2, c3, c4, c5, c6, c7, c8, c9, d1, d2, d3] e g)) = some (h.put b (.cells (cellsL (eqnV x)) e g)) := rfl
@[simp] theorem storeIn_bound (h : H) (b : Nat) (x : Bound) (c1 c2 c3 c4 : Value) (e : TypeId) (g : Bool) : storeIn h b 0 (cellsL (boundV x)) (some (.cells [c1, c2, c3, c4] e g)) = some (h.put b (.cells (cellsL (boundV x)) e g)) := rfl
theorem bs24a (h : H) (a b c d e : Value) : buildSliceOf TT h 1 (some (.slice 26)) (some [(0, .agg ⟨[a, b, c, d, e]⟩)]) = .val (.slice (some ⟨h.next, 0, none⟩) 1 1) (h.new (.cells [a, b, c, d, e] 26 false)) := by kernel_rfl
@[simp] theorem bs24 (h : H) (t : Term) : buildSliceOf TT h 1 (some (.slice 26)) (some [(0, tv t)]) = .val (.slice (some ⟨h.next, 0, none⟩) 1 1) (h.new (.cells (cellsL (tv t)) 26 false)) := by
  rw [tv_eq]; exact bs24a ..
theorem bs24b (h : H) (a b c d e a' b' c' d' e' : Value) : buildSliceOf TT h 2 (some (.slice 26)) (some [(0, .agg ⟨[a, b, c, d, e]⟩), (1, .agg ⟨[a', b', c', d', e']⟩)]) = .val (.slice (some ⟨h.next, 0, none⟩) 2 2) (h.new (.cells [a, b, c, d, e, a', b', c', d', e'] 26 false)) := by kernel_rfl
def tc2 (t s : Term) : List Value := tc t ++ tc s
@[simp] theorem bs24' (h : H) (t s : Term) : buildSliceOf TT h 2 (some (.slice 26)) (some [(0, tv t), (1, tv s)]) = .val (.slice (some ⟨h.next, 0, none⟩) 2 2) (h.new (.cells (tc2 t s) 26 false)) := by
  rw [tv_eq, tv_eq]; exact bs24b ..
theorem dat_terms {g : Nat → Option AObj} {b : Nat} {l : List Term} (hg : g b = some (.cells (l.flatMap tc) 26 false)) : DatV g (.slice (some ⟨b, 0, none⟩) l.length l.length) (termsV l) := by
  have e : ∀ l : List Term, l.flatMap tc = (l.map tv).flatMap cellsL := by
    intro l
    induction l with
    | nil => rfl
    | cons a l ih => rw [List.flatMap_cons, ih, List.map_cons, List.flatMap_cons, cells_tc]
  refine DatV.slice (pre := []) (post := []) (es := l.map tv) (ds := l.map tv) (e := 26) (gr := false) (sz := 5) (by rw [hg, e]; simp) rfl ?_ (by simp) (Nat.le_refl _) (DatL.pure (map_pure tv_pure l))
  intro x hx
  obtain ⟨t, _, rfl⟩ := List.mem_map.1 hx
  rw [cells_tv]; rfl
/-- A call with terms that have just been laid. -/
theorem mem_terms {α β : Type} [Inhabited β] {C : Con} {g : FuncId} {pre : α → Prop} {enc : α → List Value} {r : β → Value} (hh : HasE C g pre enc r) {x : α} (hx : pre x) {ps qs : List Value} {l : List Term} (he : enc x = ps ++ termsV l :: qs) (ha : PureL ps) (hb : PureL qs) :
    ∃ y : H → β, ∀ n h b, b = h.next → h.base = 0 → evK TT C n (call0 g (ps ++ .slice (some ⟨b, 0, none⟩) l.length l.length :: qs) (h.new (.cells (l.flatMap tc) 26 false))) = .ret (r (y h)) (h.new (.cells (l.flatMap tc) 26 false)) none := by
  have key : ∀ h : H, h.base = 0 → ∃ y, ∀ n, evK TT C n (call0 g (ps ++ .slice (some ⟨h.next, 0, none⟩) l.length l.length :: qs) (h.new (.cells (l.flatMap tc) 26 false))) = .ret (r y) (h.new (.cells (l.flatMap tc) 26 false)) none := by
    intro h hb0
    refine hh.ev hx ?_
    rw [he]
    have d1 : DatV (lowG (h.new (.cells (l.flatMap tc) 26 false))) (.slice (some ⟨h.next, 0, none⟩) l.length l.length) (termsV l) := dat_terms (by simp [lowG, hb0])
    have : ∀ {ps : List Value}, PureL ps → DatL (lowG (h.new (.cells (l.flatMap tc) 26 false))) (ps ++ .slice (some ⟨h.next, 0, none⟩) l.length l.length :: qs) (ps ++ termsV l :: qs) := by
      intro ps
      induction ps with
      | nil => intro _; exact .cons d1 (DatL.pure hb)
      | cons a ps ih => intro ha; cases ha with | cons h1 h2 => exact .cons (.pure h1) (ih h2)
    exact this ha
  classical
  refine ⟨fun h => if hb0 : h.base = 0 then Classical.choose (key h hb0) else default, fun n h b e hb0 => ?_⟩
  subst e
  dsimp only
  rw [dif_pos hb0]
  exact Classical.choose_spec (key h hb0) n
end Go.Proofs.YtkdfgoimgcegfaaGreatDoor
/- Layer 35: a list of names, asked by a function without captures: it answers. -/
namespace Go.Proofs.YtkdfgoimgcegfaaGreatDoor
open Go Go.Am Go.Proofs Go.Am.Sym Go.Am.Eu
set_option maxRecDepth 10000
theorem TT.f28 : TT.func 28 = some Tryz.f28 := by kernel_rfl
theorem TT.f80 : TT.func 80 = some Tryz.f80 := by kernel_rfl
theorem long28 : FnC TT Tryz.prog 28 (fun _ => True) (fun s => [.string s]) (fun s => .bool (decide (80 < s.size))) := by
  intro s _
  have e : (80 < (s.size : Int)) = (80 < s.size) := by apply propext; omega
  refine fnX_ends (v := .bool (decide (80 < s.size))) tok noC noC_sound (.cons (.ground rfl) .nil) (.ground rfl) 1 TT.f28 rfl rfl ?_
  simp [Tryz.f28, e]
theorem long80 : FnC TT Tryz.prog 80 (fun _ => True) (fun s => [.string s]) (fun s => .bool (decide (80 < s.size))) := by
  intro s _
  have e : (80 < (s.size : Int)) = (80 < s.size) := by apply propext; omega
  refine fnX_ends (v := .bool (decide (80 < s.size))) tok noC noC_sound (.cons (.ground rfl) .nil) (.ground rfl) 1 TT.f80 rfl rfl ?_
  simp [Tryz.f80, e]
abbrev fnV (g : FuncId) : Value := .func (.func g) #[] #[]
structure JsSt (l : List ByteArray) (g i : Nat) (tm : Tr Value) : Prop where
  t0 : tm.get 0 = some (strsV l)
  t1 : tm.get 1 = some (fnV g)
  t7 : tm.get 7 = some (i64 (l.length : Nat))
  t8 : tm.get 8 = some (i64 i)
section
variable {ev : Task → Ans} {l : List ByteArray} {g i : Nat} {tm : Tr Value} {h : H}
theorem f15_iterG (st : JsSt l g i tm) (hi : i < l.length) (hw1 : i + 1 ≤ big) (hev : ∀ s h, ev (call0 g [.string s] h) = .ret (.bool (decide (80 < s.size))) h none) :
    EndsAs (fun tm' h' => h' = h ∧ JsSt l g (i + 1) tm') (fun tm' _ => ∃ k, tm'.get 4 = some (i64 k)) (fun _ _ _ => False)
      (runCode TT ev ⟨15, none⟩ f15B ⟨tm, [], h, none⟩) := by
  obtain ⟨t0, t1, t7, t8⟩ := st
  have e2 := wrapN hw1
  simp at e2
  by_cases c : 80 < l[i].size
  · simp [f15B, piece, sel, sub, Tryz.f15, t0, t1, t7, t8, hi, e2, hev, c]
  · simp [f15B, piece, sel, sub, Tryz.f15, t0, t1, t7, t8, hi, e2, hev, c]
    exact ⟨by simp [t0], by simp [t1], by simp [t7], by simp⟩
theorem f15_endG (st : JsSt l g i tm) (hi : l.length ≤ i) :
    EndsAs (fun _ _ => False) (fun _ _ => False) (fun j _ _ => j = 0) (runCode TT ev ⟨15, none⟩ f15B ⟨tm, [], h, none⟩) := by
  obtain ⟨t0, t1, t7, t8⟩ := st
  have hi' : ¬ i < l.length := by omega
  simp [f15B, piece, sel, sub, Tryz.f15, t0, t1, t7, t8, hi']
end
section
variable {g : FuncId} (hg : FnC TT Tryz.prog g (fun _ => True) (fun s => [.string s]) (fun s => .bool (decide (80 < s.size))))
include hg
theorem index15G : ∃ f : List ByteArray → Int, FnC TT Tryz.prog 15 (fun l => l.length < big) (fun l => [strsV l, fnV g]) (fun x => i64 (f x)) := by
  obtain ⟨C, hC, hH⟩ : ∃ C, ConS TT Tryz.prog C ∧ Has C g (fun _ : ByteArray => True) (fun s => [.string s]) (fun s => .bool (decide (80 < s.size))) :=
    ⟨_, addC_sound noC_sound hg, Has.add fun x y e => by simp at e; rw [e]⟩
  have hev := fun n s m => hH.ev (T := TT) n (x := s) trivial m
  refine fnE i64 fun l hx => fnE_ends tok C hC (.cons (strsV_pure l) (.cons (.func _ .nil .nil) .nil)) (fun _ => .ground rfl) (l.length + 1) TT.f15 f15_split rfl ?_
  have hx : l.length < big := hx
  have p0 : EndsAs (fun tm h => tm.get 0 = some (strsV l) ∧ tm.get 1 = some (fnV g)) (fun _ _ => False) (fun _ _ _ => False) (runCode TT (evK TT C (l.length + 1 + 1)) ⟨15, none⟩ (piece Tryz.f15 [false]) ⟨initT [strsV l, fnV g] 0 .nil, [], H.empty, none⟩) := by
    simp [piece, sel, sub, Tryz.f15]
  have p1 : ∀ tm h, (tm.get 0 = some (strsV l) ∧ tm.get 1 = some (fnV g)) → EndsAs (fun tm h => JsSt l g 0 tm) (fun _ _ => False) (fun _ _ _ => False) (runCode TT (evK TT C (l.length + 1 + 1)) ⟨15, none⟩ (piece Tryz.f15 [true,false,false]) ⟨tm, [], h, none⟩) := by
    rintro tm h ⟨t0, t1⟩
    simp [piece, sel, sub, Tryz.f15, t0, t1]
    exact ⟨by simp [t0], by simp [t1], by simp, by simp⟩
  refine ends_seqC (p0.mono (fun _ _ q => q) (fun _ _ q => q.elim) (fun _ _ _ q => q)) fun tm h q => ends_seqC (N' := fun _ _ => True) (ends_seqC ((p1 tm h q).mono (fun _ _ q => q) (fun _ _ q => q.elim) (fun _ _ _ q => q)) fun tm h st => ?_) fun tm h q => ?_
  · refine ends_loop 0 (fun j tm h => ∃ i, j = l.length - i ∧ i ≤ l.length ∧ JsSt l g i tm) l.length ⟨0, rfl, by omega, st⟩ (by omega) ?_
    rintro j tm h m ⟨i, rfl, hi, st⟩ -
    by_cases hlt : i < l.length
    · exact (f15_iterG st hlt (by omega) (hev m)).mono (fun tm' h' q => ⟨_, by omega, i + 1, rfl, hlt, q.2⟩) (fun tm' h' q => q) (fun _ _ _ q => q.elim)
    · exact (f15_endG st (by omega)).mono (fun _ _ q => q.elim) (fun _ _ q => q.elim) (fun _ _ _ q => ⟨q, trivial⟩)
  · simp [piece, sel, sub, Tryz.f15]
theorem contains5G : ∃ f : List ByteArray → Bool, FnC TT Tryz.prog 5 (fun l => l.length < big) (fun l => [strsV l, fnV g]) (fun x => .bool (f x)) := by
  obtain ⟨f, hf⟩ := index15G hg
  refine fnE Value.bool fun l hx => ?_
  obtain ⟨C, hC, hH⟩ : ∃ C, ConS TT Tryz.prog C ∧ HasE C 15 (fun l : List ByteArray => l.length < big) (fun l => [strsV l, fnV g]) i64 :=
    ⟨_, addM_sound noC_sound (fun _ => rfl) hf, HasE.add⟩
  obtain ⟨k, hk⟩ := hH.data (T := TT) (x := l) hx (.cons (strsV_pure l) (.cons (.func _ .nil .nil) .nil))
  refine fnE_ends tok C hC (.cons (strsV_pure l) (.cons (.func _ .nil .nil) .nil)) (fun _ => .ground rfl) 1 TT.f5 rfl rfl ?_
  simp [Tryz.f5, hk]
  omega
end
end Go.Proofs.YtkdfgoimgcegfaaGreatDoor
/- Layer 35: the number of nodes of terms: it answers. -/
namespace Go.Proofs.YtkdfgoimgcegfaaGreatDoor
open Go Go.Am Go.Proofs Go.Am.Sym Go.Am.Eu
set_option maxRecDepth 10000
theorem TT.f81 : TT.func 81 = some Tryz.f81 := by kernel_rfl
abbrev NdArg := Int × List Term
abbrev encN (x : NdArg) : List Value := [i64 x.1, termsV x.2]
theorem encN_pure (x : NdArg) : PureL (encN x) := .cons (.ground rfl) (.cons (termsV_pure _) .nil)
noncomputable def f81B : Code := piece Tryz.f81 [true,true,false,true,false,false]
theorem f81_split : Tryz.f81.body = some (.seq (piece Tryz.f81 [false]) (.seq (piece Tryz.f81 [true,false]) (.seq (.seq (piece Tryz.f81 [true,true,false,false]) (.block 0 (.loop f81B))) (piece Tryz.f81 [true,true,true])))) := rfl
structure NdSt (x : NdArg) (i : Nat) (tm : Tr Value) (h : H) : Prop where
  base : h.base = 0
  t0 : tm.get 0 = some (i64 x.1)
  t5 : ∃ k, tm.get 5 = some (i64 k)
  t8 : tm.get 8 = some (termsV x.2)
  t9 : tm.get 9 = some (i64 (x.2.length : Nat))
  t10 : tm.get 10 = some (i64 i)
section
variable {ev : Task → Ans} {x : NdArg} {i : Nat} {tm : Tr Value} {h : H}
theorem f81_iter (st : NdSt x i tm h) (hi : i < x.2.length) (hw1 : i + 1 ≤ big) (hev : ∀ k, ∃ y : H → Int, ∀ h, ev (call0 81 (encN (k, x.2[i].kids)) h) = .ret (i64 (y h)) h none) :
    EndsAs (fun tm' h' => NdSt x (i + 1) tm' h') (fun tm' _ => ∃ k, tm'.get 4 = some (i64 k)) (fun _ _ _ => False)
      (runCode TT ev ⟨81, none⟩ f81B ⟨tm, [], h, none⟩) := by
  obtain ⟨hb, t0, ⟨k, t5⟩, t8, t9, t10⟩ := st
  have e2 := wrapN hw1
  simp at e2
  obtain ⟨y, hy⟩ := hev (IntKind.i64.wrap (x.1 - k))
  by_cases c : x.1 < k
  · simp [f81B, piece, sel, sub, Tryz.f81, t0, t5, t8, t9, t10, hb, hi, e2, c, condK_if]
  · simp [f81B, piece, sel, sub, Tryz.f81, t0, t5, t8, t9, t10, hb, hi, e2, hy, c, condK_if]
    exact ⟨by simp [hb], by simp [t0], ⟨_, by simp; rfl⟩, by simp [t8], by simp [t9], by simp⟩
theorem f81_end (st : NdSt x i tm h) (hi : x.2.length ≤ i) :
    EndsAs (fun _ _ => False) (fun _ _ => False) (fun j tm' h' => j = 0 ∧ ∃ k, tm'.get 5 = some (i64 k)) (runCode TT ev ⟨81, none⟩ f81B ⟨tm, [], h, none⟩) := by
  obtain ⟨hb, t0, ⟨k, t5⟩, t8, t9, t10⟩ := st
  have hi' : ¬ i < x.2.length := by omega
  simp [f81B, piece, sel, sub, Tryz.f81, t5, t9, t10, hi']
end
theorem nodes81 : ∃ f : NdArg → Int, FnC TT Tryz.prog 81 (fun x => wtL x.2 < big) encN (fun x => i64 (f x)) := by
  refine fnE_rec i64 (fun x => wtL x.2) fun x hx ⟨f, hf⟩ => ?_
  obtain ⟨C, hC, hH⟩ : ∃ C, ConS TT Tryz.prog C ∧ HasE C 81 (fun y : NdArg => wtL y.2 < wtL x.2 ∧ wtL y.2 < big) encN i64 :=
    ⟨_, addM_sound noC_sound (fun _ => rfl) hf, HasE.add⟩
  have hx : wtL x.2 < big := hx
  have hlen := wtL_len x.2
  refine fnE_ends tok C hC (encN_pure x) (fun _ => .ground rfl) (x.2.length + 1) TT.f81 f81_split rfl ?_
  have p0 : EndsAs (fun tm h => h.base = 0 ∧ tm.get 0 = some (i64 x.1) ∧ tm.get 1 = some (termsV x.2)) (fun _ _ => False) (fun _ _ _ => False) (runCode TT (evK TT C (x.2.length + 1 + 1)) ⟨81, none⟩ (piece Tryz.f81 [false]) ⟨initT (encN x) 0 .nil, [], H.empty, none⟩) := by
    simp [piece, sel, sub, Tryz.f81]
  have p1 : ∀ tm h, (h.base = 0 ∧ tm.get 0 = some (i64 x.1) ∧ tm.get 1 = some (termsV x.2)) → EndsAs (fun tm h => h.base = 0 ∧ tm.get 0 = some (i64 x.1) ∧ tm.get 1 = some (termsV x.2) ∧ ∃ k, tm.get 5 = some (i64 k)) (fun _ _ => False) (fun _ _ _ => False) (runCode TT (evK TT C (x.2.length + 1 + 1)) ⟨81, none⟩ (piece Tryz.f81 [true,false]) ⟨tm, [], h, none⟩) := by
    rintro tm h ⟨hb, t0, t1⟩
    simp [piece, sel, sub, Tryz.f81, t0, t1, hb]
  have p2 : ∀ tm h, (h.base = 0 ∧ tm.get 0 = some (i64 x.1) ∧ tm.get 1 = some (termsV x.2) ∧ ∃ k, tm.get 5 = some (i64 k)) → EndsAs (fun tm h => NdSt x 0 tm h) (fun _ _ => False) (fun _ _ _ => False) (runCode TT (evK TT C (x.2.length + 1 + 1)) ⟨81, none⟩ (piece Tryz.f81 [true,true,false,false]) ⟨tm, [], h, none⟩) := by
    rintro tm h ⟨hb, t0, t1, k, t5⟩
    simp [piece, sel, sub, Tryz.f81, t0, t1, hb]
    exact ⟨hb, by simp [t0], ⟨k, by simp [t5]⟩, by simp, by simp, by simp⟩
  refine ends_seqC (p0.mono (fun _ _ q => q) (fun _ _ q => q.elim) (fun _ _ _ q => q)) fun tm h q => ends_seqC ((p1 tm h q).mono (fun _ _ q => q) (fun _ _ q => q.elim) (fun _ _ _ q => q)) fun tm h q =>
    ends_seqC (N' := fun tm _ => ∃ k, tm.get 5 = some (i64 k)) (ends_seqC ((p2 tm h q).mono (fun _ _ q => q) (fun _ _ q => q.elim) (fun _ _ _ q => q)) fun tm h st => ?_) fun tm h q => ?_
  · refine ends_loop 0 (fun j tm h => ∃ i, j = x.2.length - i ∧ i ≤ x.2.length ∧ NdSt x i tm h) x.2.length ⟨0, rfl, by omega, st⟩ (by omega) ?_
    rintro j tm h m ⟨i, rfl, hi, st⟩ -
    by_cases hlt : i < x.2.length
    · have h1 := wt_mem (List.getElem_mem hlt)
      have h2 := wt_eq x.2[i]
      refine (f81_iter st hlt (by omega) (fun k => ?_)).mono (fun tm' h' q => ⟨_, by omega, i + 1, rfl, hlt, q⟩) (fun tm' h' q => q) (fun _ _ _ q => q.elim)
      obtain ⟨y, hy⟩ := hH.data (T := TT) (x := (k, x.2[i].kids)) ⟨by show wtL x.2[i].kids < _; omega, by show wtL x.2[i].kids < _; omega⟩ (encN_pure _)
      exact ⟨y, hy m⟩
    · exact (f81_end st (by omega)).mono (fun _ _ q => q.elim) (fun _ _ q => q.elim) (fun _ _ _ q => q)
  · obtain ⟨k, t5⟩ := q
    simp [piece, sel, sub, Tryz.f81, t5]
end Go.Proofs.YtkdfgoimgcegfaaGreatDoor
/- Layer 35: few and short terms: it answers. -/
namespace Go.Proofs.YtkdfgoimgcegfaaGreatDoor
open Go Go.Am Go.Proofs Go.Am.Sym Go.Am.Eu
set_option maxRecDepth 10000
theorem TT.f82 : TT.func 82 = some Tryz.f82 := by kernel_rfl
theorem TT.f135 : TT.func 135 = some Tryz.f135 := by kernel_rfl
theorem TT.f136 : TT.func 136 = some Tryz.f136 := by kernel_rfl
theorem TT.f190 : TT.func 190 = some Tryz.f190 := by kernel_rfl
abbrev f136V : Value := .func (.func 136) #[] #[]
theorem long136 : ∃ f : Lvl → Bool, FnC TT Tryz.prog 136 (fun _ => True) (fun s => [lvlV s]) (fun s => .bool (f s)) := by
  refine fnE Value.bool fun s _ => fnE_ends tok noC noC_sound (.cons (lvlV_pure s) .nil) (fun _ => .ground rfl) 1 TT.f136 rfl rfl ?_
  simp [Tryz.f136]
  omega
noncomputable def f190B : Code := piece Tryz.f190 [true,false,true,false,false]
theorem f190_split : Tryz.f190.body = some (.seq (piece Tryz.f190 [false]) (.seq (.seq (piece Tryz.f190 [true,false,false]) (.block 0 (.loop f190B))) (piece Tryz.f190 [true,true]))) := rfl
structure LiSt (l : List Lvl) (i : Nat) (tm : Tr Value) : Prop where
  t0 : tm.get 0 = some (lvlsV l)
  t1 : tm.get 1 = some f136V
  t7 : tm.get 7 = some (i64 (l.length : Nat))
  t8 : tm.get 8 = some (i64 i)
section
variable {ev : Task → Ans} {l : List Lvl} {i : Nat} {tm : Tr Value} {h : H}
theorem f190_iter (st : LiSt l i tm) (hi : i < l.length) (hw1 : i + 1 ≤ big) (hev : ∃ y : H → Bool, ∀ h, ev (call0 136 [lvlV l[i]] h) = .ret (.bool (y h)) h none) :
    EndsAs (fun tm' h' => h' = h ∧ LiSt l (i + 1) tm') (fun tm' _ => ∃ k, tm'.get 4 = some (i64 k)) (fun _ _ _ => False)
      (runCode TT ev ⟨190, none⟩ f190B ⟨tm, [], h, none⟩) := by
  obtain ⟨t0, t1, t7, t8⟩ := st
  have e2 := wrapN hw1
  simp at e2
  obtain ⟨y, hy⟩ := hev
  cases c : y h
  · simp [f190B, piece, sel, sub, Tryz.f190, t0, t1, t7, t8, hi, e2, hy, c]
    exact ⟨by simp [t0], by simp [t1], by simp [t7], by simp⟩
  · simp [f190B, piece, sel, sub, Tryz.f190, t0, t1, t7, t8, hi, e2, hy, c]
theorem f190_end (st : LiSt l i tm) (hi : l.length ≤ i) :
    EndsAs (fun _ _ => False) (fun _ _ => False) (fun j _ _ => j = 0) (runCode TT ev ⟨190, none⟩ f190B ⟨tm, [], h, none⟩) := by
  obtain ⟨t0, t1, t7, t8⟩ := st
  have hi' : ¬ i < l.length := by omega
  simp [f190B, piece, sel, sub, Tryz.f190, t0, t1, t7, t8, hi']
end
theorem lvl136_pure (l : List Lvl) : PureL [lvlsV l, f136V] := .cons (lvlsV_pure l) (.cons (.func _ .nil .nil) .nil)
theorem index190 : ∃ f : List Lvl → Int, FnC TT Tryz.prog 190 (fun l => l.length < big) (fun l => [lvlsV l, f136V]) (fun x => i64 (f x)) := by
  obtain ⟨f, hf⟩ := long136
  obtain ⟨C, hC, hH⟩ : ∃ C, ConS TT Tryz.prog C ∧ HasE C 136 (fun _ : Lvl => True) (fun s => [lvlV s]) Value.bool :=
    ⟨_, addM_sound noC_sound (fun _ => rfl) hf, HasE.add⟩
  refine fnE i64 fun l hx => fnE_ends tok C hC (lvl136_pure l) (fun _ => .ground rfl) (l.length + 1) TT.f190 f190_split rfl ?_
  have hx : l.length < big := hx
  have p0 : EndsAs (fun tm h => tm.get 0 = some (lvlsV l) ∧ tm.get 1 = some f136V) (fun _ _ => False) (fun _ _ _ => False) (runCode TT (evK TT C (l.length + 1 + 1)) ⟨190, none⟩ (piece Tryz.f190 [false]) ⟨initT [lvlsV l, f136V] 0 .nil, [], H.empty, none⟩) := by
    simp [piece, sel, sub, Tryz.f190]
  have p1 : ∀ tm h, (tm.get 0 = some (lvlsV l) ∧ tm.get 1 = some f136V) → EndsAs (fun tm h => LiSt l 0 tm) (fun _ _ => False) (fun _ _ _ => False) (runCode TT (evK TT C (l.length + 1 + 1)) ⟨190, none⟩ (piece Tryz.f190 [true,false,false]) ⟨tm, [], h, none⟩) := by
    rintro tm h ⟨t0, t1⟩
    simp [piece, sel, sub, Tryz.f190, t0, t1]
    exact ⟨by simp [t0], by simp [t1], by simp, by simp⟩
  refine ends_seqC (p0.mono (fun _ _ q => q) (fun _ _ q => q.elim) (fun _ _ _ q => q)) fun tm h q => ends_seqC (N' := fun _ _ => True) (ends_seqC ((p1 tm h q).mono (fun _ _ q => q) (fun _ _ q => q.elim) (fun _ _ _ q => q)) fun tm h st => ?_) fun tm h q => ?_
  · refine ends_loop 0 (fun j tm h => ∃ i, j = l.length - i ∧ i ≤ l.length ∧ LiSt l i tm) l.length ⟨0, rfl, by omega, st⟩ (by omega) ?_
    rintro j tm h m ⟨i, rfl, hi, st⟩ -
    by_cases hlt : i < l.length
    · refine (f190_iter st hlt (by omega) ?_).mono (fun tm' h' q => ⟨_, by omega, i + 1, rfl, hlt, q.2⟩) (fun tm' h' q => q) (fun _ _ _ q => q.elim)
      obtain ⟨y, hy⟩ := hH.data (T := TT) (x := l[i]) trivial (.cons (lvlV_pure _) .nil)
      exact ⟨y, hy m⟩
    · exact (f190_end st (by omega)).mono (fun _ _ q => q.elim) (fun _ _ q => q.elim) (fun _ _ _ q => ⟨q, trivial⟩)
  · simp [piece, sel, sub, Tryz.f190]
theorem contains135 : ∃ f : List Lvl → Bool, FnC TT Tryz.prog 135 (fun l => l.length < big) (fun l => [lvlsV l, f136V]) (fun x => .bool (f x)) := by
  obtain ⟨f, hf⟩ := index190
  refine fnE Value.bool fun l hx => ?_
  obtain ⟨C, hC, hH⟩ : ∃ C, ConS TT Tryz.prog C ∧ HasE C 190 (fun l : List Lvl => l.length < big) (fun l => [lvlsV l, f136V]) i64 :=
    ⟨_, addM_sound noC_sound (fun _ => rfl) hf, HasE.add⟩
  obtain ⟨k, hk⟩ := hH.data (T := TT) (x := l) hx (lvl136_pure l)
  refine fnE_ends tok C hC (lvl136_pure l) (fun _ => .ground rfl) 1 TT.f135 rfl rfl ?_
  simp [Tryz.f135, hk]
  omega
/-! Few -/
noncomputable def f82B : Code := piece Tryz.f82 [true,true,false,true,false,false]
theorem f82_split : Tryz.f82.body = some (.seq (piece Tryz.f82 [false]) (.seq (piece Tryz.f82 [true,false]) (.seq (.seq (piece Tryz.f82 [true,true,false,false]) (.block 0 (.loop f82B))) (piece Tryz.f82 [true,true,true])))) := rfl
structure FwSt (l : List Term) (i : Nat) (tm : Tr Value) (h : H) : Prop where
  base : h.base = 0
  t8 : tm.get 8 = some (termsV l)
  t9 : tm.get 9 = some (i64 (l.length : Nat))
  t10 : tm.get 10 = some (i64 i)
section
variable {ev : Task → Ans} {l : List Term} {i : Nat} {tm : Tr Value} {h : H}
theorem f82_iter (st : FwSt l i tm h) (hi : i < l.length) (hw1 : i + 1 ≤ big) (h135 : ∃ y : H → Bool, ∀ h, ev (call0 135 [lvlsV l[i].levels, f136V] h) = .ret (.bool (y h)) h none)
    (h82 : ∃ y : H → Bool, ∀ h, ev (call0 82 [termsV l[i].kids] h) = .ret (.bool (y h)) h none) :
    EndsAs (fun tm' h' => FwSt l (i + 1) tm' h') (fun tm' _ => ∃ k, tm'.get 2 = some (.bool k)) (fun _ _ _ => False)
      (runCode TT ev ⟨82, none⟩ f82B ⟨tm, [], h, none⟩) := by
  obtain ⟨hb, t8, t9, t10⟩ := st
  have e2 := wrapN hw1
  simp at e2
  obtain ⟨y, hy⟩ := h135
  obtain ⟨z, hz⟩ := h82
  have fin : ∀ tm' h', h'.base = 0 → tm'.get 8 = some (termsV l) → tm'.get 9 = some (i64 (l.length : Nat)) → tm'.get 10 = some (i64 ((i : Int) + 1)) → FwSt l (i + 1) tm' h' := fun tm' h' a b c d => ⟨a, b, c, d⟩
  simp +contextual [f82B, piece, sel, sub, Tryz.f82, t8, t9, t10, hb, hi, e2, hy, hz, condK_if]
  repeat' (first | split | (refine fin _ _ (by simp [hb]) (by simp [t8]) (by simp [t9]) (by simp)) | simp +contextual [t8, t9, t10, hb, hi, e2, hy, hz, condK_if, *])
theorem f82_end (st : FwSt l i tm h) (hi : l.length ≤ i) :
    EndsAs (fun _ _ => False) (fun _ _ => False) (fun j _ _ => j = 0) (runCode TT ev ⟨82, none⟩ f82B ⟨tm, [], h, none⟩) := by
  obtain ⟨hb, t8, t9, t10⟩ := st
  have hi' : ¬ i < l.length := by omega
  simp [f82B, piece, sel, sub, Tryz.f82, t9, t10, hi']
end
theorem few82 : ∃ f : List Term → Bool, FnC TT Tryz.prog 82 (fun x => wtL x < big) (fun x => [termsV x]) (fun x => .bool (f x)) := by
  obtain ⟨f1, hf1⟩ := nodes81
  obtain ⟨f2, hf2⟩ := contains135
  refine fnE_rec Value.bool wtL fun x hx ⟨f, hf⟩ => ?_
  obtain ⟨C, hC, h81, h135, h82⟩ : ∃ C, ConS TT Tryz.prog C ∧ HasE C 81 (fun x : NdArg => wtL x.2 < big) encN i64 ∧ HasE C 135 (fun l : List Lvl => l.length < big) (fun l => [lvlsV l, f136V]) Value.bool ∧
      HasE C 82 (fun y : List Term => wtL y < wtL x ∧ wtL y < big) (fun x => [termsV x]) Value.bool :=
    ⟨_, addM_sound (addM_sound (addM_sound noC_sound (fun _ => rfl) hf1) (fun _ => rfl) hf2) (fun _ => rfl) hf, .skip (by decide) (.skip (by decide) .add), .skip (by decide) .add, .add⟩
  have hx : wtL x < big := hx
  have hlen := wtL_len x
  refine fnE_ends tok C hC (.cons (termsV_pure x) .nil) (fun _ => .ground rfl) (x.length + 1) TT.f82 f82_split rfl ?_
  obtain ⟨y, hy⟩ := h81.data (T := TT) (x := (200, x)) hx (encN_pure _)
  have hy : ∀ n m, evK TT C n (call0 81 [i64 200, termsV x] m) = .ret (i64 (y m)) m none := hy
  have p0 : EndsAs (fun tm h => h.base = 0 ∧ tm.get 0 = some (termsV x)) (fun _ _ => False) (fun _ _ _ => False) (runCode TT (evK TT C (x.length + 1 + 1)) ⟨82, none⟩ (piece Tryz.f82 [false]) ⟨initT [termsV x] 0 .nil, [], H.empty, none⟩) := by
    simp [piece, sel, sub, Tryz.f82]
  have p1 : ∀ tm h, (h.base = 0 ∧ tm.get 0 = some (termsV x)) → EndsAs (fun tm h => h.base = 0 ∧ tm.get 0 = some (termsV x)) (fun tm _ => ∃ k, tm.get 2 = some (.bool k)) (fun _ _ _ => False) (runCode TT (evK TT C (x.length + 1 + 1)) ⟨82, none⟩ (piece Tryz.f82 [true,false]) ⟨tm, [], h, none⟩) := by
    rintro tm h ⟨hb, t0⟩
    by_cases c : 200 < y h
    · simp [piece, sel, sub, Tryz.f82, t0, hb, hy, c]
    · simp [piece, sel, sub, Tryz.f82, t0, hb, hy, c]
  have p2 : ∀ tm h, (h.base = 0 ∧ tm.get 0 = some (termsV x)) → EndsAs (fun tm h => FwSt x 0 tm h) (fun _ _ => False) (fun _ _ _ => False) (runCode TT (evK TT C (x.length + 1 + 1)) ⟨82, none⟩ (piece Tryz.f82 [true,true,false,false]) ⟨tm, [], h, none⟩) := by
    rintro tm h ⟨hb, t0⟩
    simp [piece, sel, sub, Tryz.f82, t0, hb]
    exact ⟨hb, by simp, by simp, by simp⟩
  refine ends_seqC (p0.mono (fun _ _ q => q) (fun _ _ q => q.elim) (fun _ _ _ q => q)) fun tm h q => ends_seqC (p1 tm h q) fun tm h q =>
    ends_seqC (N' := fun _ _ => True) (ends_seqC ((p2 tm h q).mono (fun _ _ q => q) (fun _ _ q => q.elim) (fun _ _ _ q => q)) fun tm h st => ?_) fun tm h q => ?_
  · refine ends_loop 0 (fun j tm h => ∃ i, j = x.length - i ∧ i ≤ x.length ∧ FwSt x i tm h) x.length ⟨0, rfl, by omega, st⟩ (by omega) ?_
    rintro j tm h m ⟨i, rfl, hi, st⟩ -
    by_cases hlt : i < x.length
    · have h1 := wt_mem (List.getElem_mem hlt)
      have h2 := wt_eq x[i]
      have h3 := wt_levels x[i]
      refine (f82_iter st hlt (by omega) ?_ ?_).mono (fun tm' h' q => ⟨_, by omega, i + 1, rfl, hlt, q⟩) (fun tm' h' q => q) (fun _ _ _ q => q.elim)
      · obtain ⟨y, hy⟩ := h135.data (T := TT) (x := x[i].levels) (by show _ < big; omega) (lvl136_pure _)
        exact ⟨y, hy m⟩
      · obtain ⟨y, hy⟩ := h82.data (T := TT) (x := x[i].kids) ⟨by omega, by omega⟩ (.cons (termsV_pure _) .nil)
        exact ⟨y, hy m⟩
    · exact (f82_end st (by omega)).mono (fun _ _ q => q.elim) (fun _ _ q => q.elim) (fun _ _ _ q => ⟨q, trivial⟩)
  · simp [piece, sel, sub, Tryz.f82]
end Go.Proofs.YtkdfgoimgcegfaaGreatDoor
