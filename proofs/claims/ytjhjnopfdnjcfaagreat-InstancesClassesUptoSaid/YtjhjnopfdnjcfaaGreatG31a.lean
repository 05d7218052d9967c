/- Layer 31: what the checks of terms come to: small functions. -/
import Derived.Test.YtjhjnopfdnjcfaaGreatS31b
set_option linter.unusedVariables false
set_option linter.unusedSimpArgs false
set_option linter.unusedSectionVars false
set_option linter.all false
namespace Go.Proofs.YtjhjnopfdnjcfaaGreat
open Go Go.Am Go.Proofs Go.Am.Sym Go.Am.Eu
set_option maxRecDepth 10000
theorem TT.f32 : TT.func 32 = some Tryz.f32 := by kernel_rfl
theorem TT.f42 : TT.func 42 = some Tryz.f42 := by kernel_rfl
theorem TT.f43 : TT.func 43 = some Tryz.f43 := by kernel_rfl
theorem below_fn : ∃ f : Int × Int → Int, FnC TT Tryz.prog 32 (fun _ => True) (fun x => [i64 x.1, i64 x.2]) (fun x => i64 (f x)) := by
  refine fnE i64 fun x _ => fnE_of tok noC noC_sound (PureL.ground rfl) (fun _ => .ground rfl) 1 TT.f32 rfl rfl ?_
  simp +contextual [Tryz.f32, condK_if]
  split <;> simp
theorem kids_fn : ∃ f : Int → Int, FnC TT Tryz.prog 42 (fun _ => True) (fun x => [i64 x]) (fun x => i64 (f x)) := by
  refine fnE i64 fun x _ => fnE_of tok noC noC_sound (PureL.ground rfl) (fun _ => .ground rfl) 1 TT.f42 rfl rfl ?_
  simp +contextual [Tryz.f42, condK_if]
  repeat' (split <;> try simp +contextual [condK_if, *])
theorem letter_fn : ∃ f : Int → Bool, FnC TT Tryz.prog 43 (fun _ => True) (fun x => [.int .u8 x]) (fun x => .bool (f x)) := by
  refine fnE Value.bool fun x _ => fnE_of tok noC noC_sound (.cons (.ground rfl) .nil) (fun _ => .ground rfl) 1 TT.f43 rfl rfl ?_
  simp +contextual [Tryz.f43, condK_if]
end Go.Proofs.YtjhjnopfdnjcfaaGreat
/- Layer 31: the check of a level. -/
namespace Go.Proofs.YtjhjnopfdnjcfaaGreat
open Go Go.Am Go.Proofs Go.Am.Sym Go.Am.Eu
set_option maxRecDepth 10000
theorem TT.f44 : TT.func 44 = some Tryz.f44 := by kernel_rfl
noncomputable def f44B : Code := piece Tryz.f44 [true,true,false,true,false,false]
theorem f44_split : Tryz.f44.body = some (.seq (piece Tryz.f44 [false]) (.seq (piece Tryz.f44 [true,false]) (.seq (.seq (piece Tryz.f44 [true,true,false,false]) (.block 0 (.loop f44B))) (piece Tryz.f44 [true,true,true])))) := rfl
def Boo (t : Nat) (tm : Tr Value) : Prop := ∃ b, tm.get t = some (.bool b)
section
variable {ev : Task → Ans} {x : Lvl} {i : Nat} {tm : Tr Value} {h : H} (hb : h.base = 0) (hn : 0 < h.next) (h0 : h.get 0 = some (.cells (cellsL (lvlV x)) 62 false))
    (t1 : tm.get 1 = some (.pointer (some ⟨0, 0, none⟩))) (t2 : Boo 2 tm) (t3 : tm.get 3 = some (i64 i))
include hb hn h0 t1 t2 t3
theorem f44_iter (hi : i < x.vars.length) (hw1 : i + 1 ≤ big) :
    EndsAs (fun tm' h' => h'.base = 0 ∧ 0 < h'.next ∧ h'.get 0 = some (.cells (cellsL (lvlV x)) 62 false) ∧ tm'.get 1 = some (.pointer (some ⟨0, 0, none⟩)) ∧ Boo 2 tm' ∧ tm'.get 3 = some (i64 (i + 1 : Nat))) (fun tm' _ => Boo 2 tm') (fun _ _ _ => False)
      (runCode TT ev ⟨44, none⟩ f44B ⟨tm, [], h, none⟩) := by
  have e2 := wrapN hw1
  simp at e2
  have hne : h.next ≠ 0 := by omega
  have t2' := t2
  simp [Boo] at t2'
  have key : 0 < i → IntKind.i64.wrap ((i : Int) - 1) = (i - 1 : Nat) := fun k => by
    rw [← wrapN (n := i - 1) (by omega)]; congr 1; omega
  have hlt : i - 1 < x.vars.length := by omega
  by_cases hpos : 0 < i
  all_goals
    simp +contextual [f44B, piece, sel, sub, Tryz.f44, t1, t2, t3, h0, hb, hn, hne, hne.symm, hi, e2, condK_if]
    split
    · simp [Boo]
    · first | have key := key hpos | have key := trivial
      simp +contextual [t1, t2, t3, h0, hb, hn, hne, hne.symm, hi, e2, condK_if, hpos, key, hlt]
      repeat' (first | split | simp +contextual [Boo, t1, t2', t3, h0, hb, hn, hne, hne.symm, e2, condK_if, *])
theorem f44_end (hi : x.vars.length ≤ i) :
    EndsAs (fun _ _ => False) (fun _ _ => False) (fun j tm' h' => j = 0 ∧ h' = h) (runCode TT ev ⟨44, none⟩ f44B ⟨tm, [], h, none⟩) := by
  have hi' : ¬ i < x.vars.length := by omega
  have hne : h.next ≠ 0 := by omega
  simp +contextual [f44B, piece, sel, sub, Tryz.f44, t1, t2, t3, h0, hb, hn, hne, hne.symm, hi', condK_if]
end
theorem valid_fn : ∃ f : Lvl → Bool, FnC TT Tryz.prog 44 (fun x => x.vars.length < big) (fun x => [lvlV x]) (fun x => .bool (f x)) := by
  refine fnE Value.bool fun x hx => fnE_of tok noC noC_sound (.cons (lvlV_pure x) .nil) (fun _ => .ground rfl) (x.vars.length + 1) TT.f44 f44_split rfl ?_
  simp +contextual [piece, sel, sub, Tryz.f44, condK_if]
  split
  · simp
  · simp
    generalize hX : runCode TT _ _ (.loop f44B) _ = X
    rcases at_loop hX 0 (fun j tm h => ∃ i : Nat, j = x.vars.length - i ∧ i ≤ x.vars.length ∧ h.base = 0 ∧ 0 < h.next ∧ h.get 0 = some (.cells (cellsL (lvlV x)) 62 false) ∧ tm.get 1 = some (.pointer (some ⟨0, 0, none⟩)) ∧ Boo 2 tm ∧ tm.get 3 = some (i64 i))
        (fun tm _ => Boo 2 tm) (fun j _ _ => j = 0) x.vars.length ⟨0, by simp [Boo]⟩ (by omega) (by
          rintro j tm h m ⟨i, rfl, hi, hb, hn, h0, t1, t2, t3⟩ -
          by_cases hlt : i < x.vars.length
          · exact (f44_iter hb hn h0 t1 t2 t3 hlt (by omega)).mono (fun tm' h' q => ⟨_, by omega, i + 1, rfl, hlt, q⟩) (fun _ _ q => q) (fun _ _ _ q => q.elim)
          · exact (f44_end hb hn h0 t1 t2 t3 (by omega)).mono (fun _ _ q => q.elim) (fun _ _ q => q.elim) (fun _ _ _ q => q.1)) with ⟨tm, m, rfl, q⟩ | ⟨j, tm, m, rfl, rfl⟩
    · obtain ⟨b, q⟩ := q
      simp [q]
    · simp
end Go.Proofs.YtjhjnopfdnjcfaaGreat
/- Layer 31: the check of a level in its place. -/
namespace Go.Proofs.YtjhjnopfdnjcfaaGreat
open Go Go.Am Go.Proofs Go.Am.Sym Go.Am.Eu
set_option maxRecDepth 10000
theorem TT.f31 : TT.func 31 = some Tryz.f31 := by kernel_rfl
noncomputable def f31B0 : Code := piece Tryz.f31 [true,true,false,true,false,false]
noncomputable def f31B2 : Code := piece Tryz.f31 [true,true,true,false,true,false,false]
theorem f31_split : Tryz.f31.body = some (.seq (piece Tryz.f31 [false]) (.seq (piece Tryz.f31 [true,false]) (.seq (.seq (piece Tryz.f31 [true,true,false,false]) (.block 0 (.loop f31B0))) (.seq (.seq (piece Tryz.f31 [true,true,true,false,false]) (.block 2 (.loop f31B2))) (piece Tryz.f31 [true,true,true,true]))))) := rfl
def Iii (t : Nat) (tm : Tr Value) : Prop := ∃ n, tm.get t = some (i64 n)
section
variable {ev : Task → Ans} {x : Lvl} {i : Nat} {p q : Int} {tm : Tr Value} {h : H} (hb : h.base = 0) (hn : 0 < h.next) (h0 : h.get 0 = some (.cells (cellsL (lvlV x)) 62 false))
    (t1 : tm.get 1 = some (i64 p)) (t2 : tm.get 2 = some (i64 q)) (t3 : tm.get 3 = some (.pointer (some ⟨0, 0, none⟩)))
include hb hn h0 t1 t2 t3
theorem f31_iter0 (t7 : tm.get 7 = some (i64 i)) (hi : i < x.vars.length) (hw1 : i + 1 ≤ big) :
    EndsAs (fun tm' h' => h' = h ∧ tm'.get 1 = some (i64 p) ∧ tm'.get 2 = some (i64 q) ∧ tm'.get 3 = some (.pointer (some ⟨0, 0, none⟩)) ∧ tm'.get 7 = some (i64 (i + 1 : Nat))) (fun tm' _ => Iii 6 tm') (fun _ _ _ => False)
      (runCode TT ev ⟨31, none⟩ f31B0 ⟨tm, [], h, none⟩) := by
  have e2 := wrapN hw1
  simp at e2
  have hne : h.next ≠ 0 := by omega
  simp +contextual [f31B0, piece, sel, sub, Tryz.f31, t1, t2, t3, t7, h0, hb, hn, hne, hne.symm, hi, e2, condK_if]
  repeat' (first | split | simp +contextual [Iii, t1, t2, t3, h0, hb, hn, hne, hne.symm, e2, condK_if, *])
theorem f31_end0 (t7 : tm.get 7 = some (i64 i)) (hi : x.vars.length ≤ i) :
    EndsAs (fun _ _ => False) (fun _ _ => False) (fun j tm' h' => j = 0 ∧ h' = h ∧ tm'.get 1 = some (i64 p) ∧ tm'.get 2 = some (i64 q) ∧ tm'.get 3 = some (.pointer (some ⟨0, 0, none⟩))) (runCode TT ev ⟨31, none⟩ f31B0 ⟨tm, [], h, none⟩) := by
  have hi' : ¬ i < x.vars.length := by omega
  simp +contextual [f31B0, piece, sel, sub, Tryz.f31, t1, t2, t3, t7, h0, hb, hn, hi', condK_if]
theorem f31_iter2 (t8 : tm.get 8 = some (i64 i)) (hi : i < x.vars.length) (hw1 : i + 1 ≤ big) :
    EndsAs (fun tm' h' => h' = h ∧ tm'.get 1 = some (i64 p) ∧ tm'.get 2 = some (i64 q) ∧ tm'.get 3 = some (.pointer (some ⟨0, 0, none⟩)) ∧ tm'.get 8 = some (i64 (i + 1 : Nat))) (fun tm' _ => Iii 6 tm') (fun _ _ _ => False)
      (runCode TT ev ⟨31, none⟩ f31B2 ⟨tm, [], h, none⟩) := by
  have e2 := wrapN hw1
  simp at e2
  have hne : h.next ≠ 0 := by omega
  simp +contextual [f31B2, piece, sel, sub, Tryz.f31, t1, t2, t3, t8, h0, hb, hn, hne, hne.symm, hi, e2, condK_if]
  repeat' (first | split | simp +contextual [Iii, t1, t2, t3, h0, hb, hn, hne, hne.symm, e2, condK_if, *])
theorem f31_end2 (t8 : tm.get 8 = some (i64 i)) (hi : x.vars.length ≤ i) :
    EndsAs (fun _ _ => False) (fun _ _ => False) (fun j tm' h' => j = 2 ∧ h' = h) (runCode TT ev ⟨31, none⟩ f31B2 ⟨tm, [], h, none⟩) := by
  have hi' : ¬ i < x.vars.length := by omega
  simp +contextual [f31B2, piece, sel, sub, Tryz.f31, t1, t2, t3, t8, h0, hb, hn, hi', condK_if]
end
theorem level_fn : ∃ f : Lvl × Int × Int → Int, FnC TT Tryz.prog 31 (fun x => x.1.vars.length < big) (fun x => [lvlV x.1, i64 x.2.1, i64 x.2.2]) (fun x => i64 (f x)) := by
  obtain ⟨fv, hv⟩ := valid_fn
  obtain ⟨C, hC, hH⟩ : ∃ C, ConS TT Tryz.prog C ∧ Has C 44 (fun y : Lvl => y.vars.length < big) (fun y => [lvlV y]) (fun y => .bool (fv y)) :=
    ⟨_, addC_sound noC_sound hv, Has.add fun x y e => by simp at e; rw [lvlV_inj e]⟩
  refine fnE i64 fun ⟨x, p, q⟩ hx => fnE_of tok C hC (.cons (lvlV_pure x) (.cons (.ground rfl) (.cons (.ground rfl) .nil))) (fun _ => .ground rfl) (x.vars.length + 1) TT.f31 f31_split rfl ?_
  have hx : x.vars.length < big := hx
  have hev := fun n m => hH.ev (T := TT) n (x := x) hx m
  simp +contextual [piece, sel, sub, Tryz.f31, condK_if, hev]
  split
  · simp
  · simp
    generalize hX : runCode TT _ _ (.loop f31B0) _ = X
    rcases at_loop hX 0 (fun j tm h => ∃ i : Nat, j = x.vars.length - i ∧ i ≤ x.vars.length ∧ h = H.empty.new (.cells (cellsL (lvlV x)) 62 false) ∧ tm.get 1 = some (i64 p) ∧ tm.get 2 = some (i64 q) ∧ tm.get 3 = some (.pointer (some ⟨0, 0, none⟩)) ∧ tm.get 7 = some (i64 i))
        (fun tm _ => Iii 6 tm) (fun j tm h => j = 0 ∧ h = H.empty.new (.cells (cellsL (lvlV x)) 62 false) ∧ tm.get 1 = some (i64 p) ∧ tm.get 2 = some (i64 q) ∧ tm.get 3 = some (.pointer (some ⟨0, 0, none⟩))) x.vars.length ⟨0, by simp⟩ (by omega) (by
          rintro j tm h m ⟨i, rfl, hi, rfl, t1, t2, t3, t7⟩ -
          by_cases hlt : i < x.vars.length
          · exact (f31_iter0 (x := x) (by simp) (by simp) (by simp) t1 t2 t3 t7 hlt (by omega)).mono (fun tm' h' q => ⟨_, by omega, i + 1, rfl, hlt, q⟩) (fun _ _ q => q) (fun _ _ _ q => q.elim)
          · exact (f31_end0 (x := x) (by simp) (by simp) (by simp) t1 t2 t3 t7 (by omega)).mono (fun _ _ q => q.elim) (fun _ _ q => q.elim) (fun _ _ _ q => q)) with ⟨tm, m, rfl, q⟩ | ⟨j, tm, m, rfl, rfl, rfl, t1, t2, t3⟩
    · obtain ⟨b, q⟩ := q
      simp [q]
    · simp [t1, t2, t3]
      generalize hX : runCode TT _ _ (.loop f31B2) _ = X
      rcases at_loop hX 0 (fun j tm h => ∃ i : Nat, j = x.vars.length - i ∧ i ≤ x.vars.length ∧ h = H.empty.new (.cells (cellsL (lvlV x)) 62 false) ∧ tm.get 1 = some (i64 p) ∧ tm.get 2 = some (i64 q) ∧ tm.get 3 = some (.pointer (some ⟨0, 0, none⟩)) ∧ tm.get 8 = some (i64 i))
          (fun tm _ => Iii 6 tm) (fun j tm h => j = 2 ∧ h = H.empty.new (.cells (cellsL (lvlV x)) 62 false)) x.vars.length ⟨0, by simp [t1, t2, t3]⟩ (by omega) (by
            rintro j tm h m ⟨i, rfl, hi, rfl, t1, t2, t3, t8⟩ -
            by_cases hlt : i < x.vars.length
            · exact (f31_iter2 (x := x) (by simp) (by simp) (by simp) t1 t2 t3 t8 hlt (by omega)).mono (fun tm' h' q => ⟨_, by omega, i + 1, rfl, hlt, q⟩) (fun _ _ q => q) (fun _ _ _ q => q.elim)
            · exact (f31_end2 (x := x) (by simp) (by simp) (by simp) t1 t2 t3 t8 (by omega)).mono (fun _ _ q => q.elim) (fun _ _ q => q.elim) (fun _ _ _ q => q)) with ⟨tm, m, rfl, q⟩ | ⟨j, tm, m, rfl, rfl, rfl⟩
      · obtain ⟨b, q⟩ := q
        simp [q]
      · simp
end Go.Proofs.YtjhjnopfdnjcfaaGreat
