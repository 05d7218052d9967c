/- Layer 31: the checks, the names, the search in a list of names. -/
import Derived.Test.YtjhjnopfdnjcfaaGreatG31d
set_option linter.unusedVariables false
set_option linter.unusedSimpArgs false
set_option linter.unusedSectionVars false
set_option linter.all false
namespace Go.Proofs.YtjhjnopfdnjcfaaGreat
open Go Go.Am Go.Proofs Go.Am.Sym Go.Am.Eu
set_option maxRecDepth 10000
theorem TT.f4 : TT.func 4 = some Tryz.f4 := by kernel_rfl
theorem TT.f10 : TT.func 10 = some Tryz.f10 := by kernel_rfl
theorem TT.f11 : TT.func 11 = some Tryz.f11 := by kernel_rfl
theorem TT.f28 : TT.func 28 = some Tryz.f28 := by kernel_rfl
theorem TT.f24 : TT.func 24 = some Tryz.f24 := by kernel_rfl
theorem TT.f41 : TT.func 41 = some Tryz.f41 := by kernel_rfl
theorem TT.f27 : TT.func 27 = some Tryz.f27 := by kernel_rfl
theorem whole_fn : ∃ f : Term → Int, FnC TT Tryz.prog 6 (fun t => wt t < big) (fun t => [tv t, i64 65536, i64 8, i64 65536, i64 65536]) (fun t => i64 (f t)) := by
  obtain ⟨f12, h12⟩ := check_fn
  obtain ⟨f13, h13⟩ := depth_fn
  obtain ⟨C, hC, hH12, hH13, hH5⟩ : ∃ C, ConS TT Tryz.prog C ∧ Has C 12 (fun y : CkArg => wt y.t < big) CkArg.enc (fun y => i64 (f12 y)) ∧ Has C 13 (fun t : Term => wt t < big) (fun y => [tv y]) (fun y => i64 (f13 y)) ∧
      Has C 5 (fun t : Term => nodes t ≤ big) (fun y => [tv y]) (fun y => i64 (nodes y)) :=
    ⟨_, addC_sound (addC_sound (addC_sound noC_sound h12) h13) nodes_fn,
      .skip (by decide) (.skip (by decide) (.add fun x y e => by rw [CkArg.enc_inj e])), .skip (by decide) (.add fun x y e => by simp at e; rw [tv_inj e]), .add fun x y e => by simp at e; rw [tv_inj e]⟩
  refine fnE i64 fun t ht => fnE_ends tok C hC (.cons (tv_pure t) (.cons (.ground rfl) (.cons (.ground rfl) (.cons (.ground rfl) (.cons (.ground rfl) .nil))))) (fun _ => .ground rfl) 1 TT.f6 rfl rfl ?_
  have hn := nodes_le t
  have e12 := fun n m => hH12.ev (T := TT) n (x := ⟨t, 0, 8, 65536, 65536, 65536⟩) ht m
  have e12' := fun n m => hH12.ev (T := TT) n (x := ⟨t, 0, 65536, 8, 65536, 65536⟩) ht m
  have e13 := fun n m => hH13.ev (T := TT) n (x := t) ht m
  have e5 := fun n m => hH5.ev (T := TT) n (x := t) (by omega) m
  simp only [CkArg.enc] at e12 e12'
  simp +contextual [Tryz.f6, condK_if, e12, e12', e13, e5]
  repeat' (first | split | simp +contextual [condK_if, e13, e5])
theorem long_fn : ∃ f : ByteArray → Bool, FnC TT Tryz.prog 11 (fun _ => True) (fun x => [.string x]) (fun x => .bool (f x)) := by
  refine fnE Value.bool fun s _ => fnE_ends tok noC noC_sound (.cons (.ground rfl) .nil) (fun _ => .ground rfl) 1 TT.f11 rfl rfl ?_
  simp +contextual [Tryz.f11, condK_if]
  omega
noncomputable def f28B : Code := piece Tryz.f28 [true,false,true,false,false]
theorem f28_split : Tryz.f28.body = some (.seq (piece Tryz.f28 [false]) (.seq (.seq (piece Tryz.f28 [true,false,false]) (.block 0 (.loop f28B))) (piece Tryz.f28 [true,true]))) := rfl
abbrev fn11 : Value := .func (.func 11) #[] #[]
section
variable {ev : Task → Ans} {l : List ByteArray} {i : Nat} {tm : Tr Value} {h : H} {fv : ByteArray → Bool} (hev : ∀ x h, ev (call0 11 [.string x] h) = .ret (.bool (fv x)) h none)
    (t0 : tm.get 0 = some (strsV l)) (t1 : tm.get 1 = some fn11) (t7 : tm.get 7 = some (i64 l.length)) (t8 : tm.get 8 = some (i64 i))
include hev t0 t1 t7 t8
theorem f28_iter (hi : i < l.length) (hw1 : i + 1 ≤ big) :
    EndsAs (fun tm' h' => h' = h ∧ tm'.get 0 = some (strsV l) ∧ tm'.get 1 = some fn11 ∧ tm'.get 7 = some (i64 l.length) ∧ tm'.get 8 = some (i64 (i + 1 : Nat))) (fun tm' _ => Iii 4 tm') (fun _ _ _ => False)
      (runCode TT ev ⟨28, none⟩ f28B ⟨tm, [], h, none⟩) := by
  have e2 := wrapN hw1
  simp at e2
  simp +contextual [f28B, piece, sel, sub, Tryz.f28, hev, t0, t1, t7, t8, hi, e2, condK_if, Iii]
  repeat' (first | split | simp +contextual [Iii, t0, t1, t7, t8, e2, condK_if, *])
theorem f28_end (hi : l.length ≤ i) :
    EndsAs (fun _ _ => False) (fun _ _ => False) (fun j tm' h' => j = 0 ∧ h' = h) (runCode TT ev ⟨28, none⟩ f28B ⟨tm, [], h, none⟩) := by
  have hi' : ¬ i < l.length := by omega
  simp +contextual [f28B, piece, sel, sub, Tryz.f28, t0, t1, t7, t8, hi', condK_if]
end
theorem indexFunc_fn : ∃ f : List ByteArray → Int, FnC TT Tryz.prog 28 (fun l => l.length < big) (fun l => [strsV l, fn11]) (fun l => i64 (f l)) := by
  obtain ⟨fv, hv⟩ := long_fn
  obtain ⟨C, hC, hH⟩ : ∃ C, ConS TT Tryz.prog C ∧ Has C 11 (fun _ : ByteArray => True) (fun y => [.string y]) (fun y => .bool (fv y)) :=
    ⟨_, addC_sound noC_sound hv, Has.add fun x y e => by simp at e; rw [e]⟩
  refine fnE i64 fun l hl => fnE_ends tok C hC (.cons (strsV_pure l) (.cons (.func _ .nil .nil) .nil)) (fun _ => .ground rfl) (l.length + 1) TT.f28 f28_split rfl ?_
  have hev := fun n x m => hH.ev (T := TT) n (x := x) trivial m
  have q0 : EndsAs (fun tm h => h = H.empty ∧ tm.get 0 = some (strsV l) ∧ tm.get 1 = some fn11) (fun _ _ => False) (fun _ _ _ => False) (runCode TT (evK TT C (l.length + 1 + 1)) ⟨28, none⟩ (piece Tryz.f28 [false]) ⟨initT [strsV l, fn11] 0 .nil, [], H.empty, none⟩) := by
    simp [piece, sel, sub, Tryz.f28]
  refine (ends_seqC (q0.mono (fun _ _ q => q) (fun _ _ q => q.elim) (fun _ _ _ q => q)) fun tm h ⟨hh, t0, t1⟩ => ends_seqC (ends_seqC (N' := fun tm h => h = H.empty ∧ tm.get 0 = some (strsV l) ∧ tm.get 1 = some fn11 ∧ tm.get 7 = some (i64 l.length) ∧ tm.get 8 = some (i64 (0 : Nat))) ?_ fun tm h hI =>
      ends_loop (N := fun _ _ => True) 0 (fun j tm h => ∃ i : Nat, j = l.length - i ∧ i ≤ l.length ∧ h = H.empty ∧ tm.get 0 = some (strsV l) ∧ tm.get 1 = some fn11 ∧ tm.get 7 = some (i64 l.length) ∧ tm.get 8 = some (i64 i)) l.length ⟨0, by omega, by omega, hI⟩ (by omega) ?_) fun tm h _ => ?_).mono (N := fun _ _ => False) (R := fun tm _ => Iii 4 tm) (X := fun _ _ _ => False) (fun _ _ q => q.elim) (fun _ _ q => q) (fun _ _ _ q => q)
  · simp [piece, sel, sub, Tryz.f28, t0, t1, hh]
  · rintro j tm h m ⟨i, rfl, hi, rfl, t0, t1, t7, t8⟩ -
    by_cases hlt : i < l.length
    · exact (f28_iter (hev m) t0 t1 t7 t8 hlt (by omega)).mono (fun tm' h' q => ⟨_, by omega, i + 1, rfl, hlt, q⟩) (fun _ _ q => q) (fun _ _ _ q => q.elim)
    · exact (f28_end (hev m) t0 t1 t7 t8 (by omega)).mono (fun _ _ q => q.elim) (fun _ _ q => q.elim) (fun _ _ _ q => ⟨q.1, trivial⟩)
  · simp [piece, sel, sub, Tryz.f28, Iii]
theorem containsFunc_fn : ∃ f : List ByteArray → Bool, FnC TT Tryz.prog 10 (fun l => l.length < big) (fun l => [strsV l, fn11]) (fun l => .bool (f l)) := by
  obtain ⟨fv, hv⟩ := indexFunc_fn
  obtain ⟨C, hC, hH⟩ : ∃ C, ConS TT Tryz.prog C ∧ Has C 28 (fun l : List ByteArray => l.length < big) (fun l => [strsV l, fn11]) (fun y => i64 (fv y)) :=
    ⟨_, addC_sound noC_sound hv, Has.add fun x y e => by simp at e; rw [strsV_inj e]⟩
  refine fnE Value.bool fun l hl => fnE_ends tok C hC (.cons (strsV_pure l) (.cons (.func _ .nil .nil) .nil)) (fun _ => .ground rfl) 1 TT.f10 rfl rfl ?_
  have hev := fun n m => hH.ev (T := TT) n (x := l) hl m
  simp +contextual [Tryz.f10, condK_if, hev]
  omega
theorem names_fn : ∃ f : List ByteArray → Bool, FnC TT Tryz.prog 4 (fun l => l.length < big) (fun l => [strsV l]) (fun l => .bool (f l)) := by
  obtain ⟨fv, hv⟩ := containsFunc_fn
  obtain ⟨C, hC, hH⟩ : ∃ C, ConS TT Tryz.prog C ∧ Has C 10 (fun l : List ByteArray => l.length < big) (fun l => [strsV l, fn11]) (fun y => .bool (fv y)) :=
    ⟨_, addC_sound noC_sound hv, Has.add fun x y e => by simp at e; rw [strsV_inj e]⟩
  refine fnE Value.bool fun l hl => fnE_ends tok C hC (.cons (strsV_pure l) .nil) (fun _ => .ground rfl) 1 TT.f4 rfl rfl ?_
  have hev := fun n m => hH.ev (T := TT) n (x := l) hl m
  simp +contextual [Tryz.f4, condK_if, hev]
  by_cases h1 : (l.length : Int) ≤ 12 <;> cases h2 : fv l <;> simp [h1, h2]
end Go.Proofs.YtjhjnopfdnjcfaaGreat
/- Layer 31: whether a name is in a list: two ways to ask. -/
namespace Go.Proofs.YtjhjnopfdnjcfaaGreat
open Go Go.Am Go.Proofs Go.Am.Sym Go.Am.Eu
set_option maxRecDepth 10000
def memS (l : List ByteArray) (s : ByteArray) : Bool := l.any fun x => x.toList == s.toList
theorem memS_at {l : List ByteArray} {s : ByteArray} {i : Nat} (hi : i < l.length) (h : l[i].toList = s.toList) : memS l s = true := by
  unfold memS
  rw [List.any_eq_true]
  exact ⟨l[i], List.getElem_mem _, by simp [h]⟩
theorem memS_no {l : List ByteArray} {s : ByteArray} (h : ∀ i (hi : i < l.length), l[i].toList ≠ s.toList) : memS l s = false := by
  unfold memS
  rw [List.any_eq_false]
  intro x hx
  obtain ⟨i, hi, rfl⟩ := List.getElem_of_mem hx
  simp [h i hi]
abbrev Pair := List ByteArray × ByteArray
abbrev encP (x : Pair) : List Value := [strsV x.1, .string x.2]
theorem encP_inj {x y : Pair} (h : encP x = encP y) : x = y := by
  obtain ⟨x1, x2⟩ := x; obtain ⟨y1, y2⟩ := y
  simp at h
  rw [strsV_inj h.1, h.2]
/-- None of the first is the name. -/
def Upto (l : List ByteArray) (s : ByteArray) (i : Nat) : Prop := ∀ j (hj : j < l.length), j < i → l[j].toList ≠ s.toList
theorem Upto.next {l : List ByteArray} {s : ByteArray} {i : Nat} (h : Upto l s i) (hi : i < l.length) (hn : l[i].toList ≠ s.toList) : Upto l s (i + 1) := fun j hj hlt => by
  by_cases e : j = i
  · subst e; exact hn
  · exact h j hj (by omega)
noncomputable def f41B : Code := piece Tryz.f41 [true,false,true,false,false]
theorem f41_split : Tryz.f41.body = some (.seq (piece Tryz.f41 [false]) (.seq (.seq (piece Tryz.f41 [true,false,false]) (.block 0 (.loop f41B))) (piece Tryz.f41 [true,true]))) := rfl
section
variable {ev : Task → Ans} {l : List ByteArray} {s : ByteArray} {i : Nat} {tm : Tr Value} {h : H}
    (t0 : tm.get 0 = some (strsV l)) (t1 : tm.get 1 = some (.string s)) (t7 : tm.get 7 = some (i64 l.length)) (t8 : tm.get 8 = some (i64 i))
include t0 t1 t7 t8
theorem f41_iter (hu : Upto l s i) (hi : i < l.length) (hw1 : i + 1 ≤ big) :
    EndsAs (fun tm' h' => h' = h ∧ Upto l s (i + 1) ∧ tm'.get 0 = some (strsV l) ∧ tm'.get 1 = some (.string s) ∧ tm'.get 7 = some (i64 l.length) ∧ tm'.get 8 = some (i64 (i + 1 : Nat))) (fun tm' _ => ∃ v : Int, tm'.get 4 = some (i64 v) ∧ (0 ≤ v ↔ memS l s = true)) (fun _ _ _ => False)
      (runCode TT ev ⟨41, none⟩ f41B ⟨tm, [], h, none⟩) := by
  have e2 := wrapN hw1
  simp at e2
  by_cases he : l[i].toList = s.toList
  · have hm := memS_at hi he
    simp +contextual [f41B, piece, sel, sub, Tryz.f41, t0, t1, t7, t8, hi, e2, condK_if, he, hm]
  · have hm := hu.next hi he
    have he' : ¬ s.toList = l[i].toList := fun e => he e.symm
    simp +contextual [f41B, piece, sel, sub, Tryz.f41, t0, t1, t7, t8, hi, e2, condK_if, he', hm]
theorem f41_end (hi : l.length ≤ i) :
    EndsAs (fun _ _ => False) (fun _ _ => False) (fun j tm' h' => j = 0 ∧ h' = h) (runCode TT ev ⟨41, none⟩ f41B ⟨tm, [], h, none⟩) := by
  have hi' : ¬ i < l.length := by omega
  simp +contextual [f41B, piece, sel, sub, Tryz.f41, t0, t1, t7, t8, hi', condK_if]
end
theorem index_fn : ∃ f : Pair → Int, FnC TT Tryz.prog 41 (fun x => x.1.length < big) encP (fun x => i64 (f x)) ∧ ∀ x : Pair, x.1.length < big → (0 ≤ f x ↔ memS x.1 x.2 = true) := by
  refine fnP i64 (fun (x : Pair) v => 0 ≤ v ↔ memS x.1 x.2 = true) fun ⟨l, s⟩ hl => fnP_ends tok noC noC_sound (.cons (strsV_pure l) (.cons (.ground rfl) .nil)) (fun _ => .ground rfl) (l.length + 1) TT.f41 f41_split rfl ?_
  have hl : l.length < big := hl
  refine (ends_seqC (N' := fun tm h => h = H.empty ∧ tm.get 0 = some (strsV l) ∧ tm.get 1 = some (.string s)) ?_ fun tm h ⟨hh, t0, t1⟩ => ends_seqC (ends_seqC (N' := fun tm h => h = H.empty ∧ tm.get 0 = some (strsV l) ∧ tm.get 1 = some (.string s) ∧ tm.get 7 = some (i64 l.length) ∧ tm.get 8 = some (i64 (0 : Nat))) ?_ fun tm h hI =>
      ends_loop (N := fun _ _ => memS l s = false) 0 (fun j tm h => ∃ i : Nat, j = l.length - i ∧ i ≤ l.length ∧ h = H.empty ∧ Upto l s i ∧ tm.get 0 = some (strsV l) ∧ tm.get 1 = some (.string s) ∧ tm.get 7 = some (i64 l.length) ∧ tm.get 8 = some (i64 i)) l.length ⟨0, by omega, by omega, hI.1, fun _ _ h => by omega, hI.2⟩ (by omega) ?_) fun tm h hm => ?_).mono
      (N := fun _ _ => False) (R := fun tm' _ => ∃ v : Int, tm'.get 4 = some (i64 v) ∧ (0 ≤ v ↔ memS l s = true)) (X := fun _ _ _ => False) (fun _ _ q => q.elim) (fun _ _ q => q) (fun _ _ _ q => q)
  · simp [piece, sel, sub, Tryz.f41]
  · simp [piece, sel, sub, Tryz.f41, t0, t1, hh]
  · rintro j tm h m ⟨i, rfl, hi, rfl, hu, t0, t1, t7, t8⟩ -
    by_cases hlt : i < l.length
    · exact (f41_iter t0 t1 t7 t8 hu hlt (by omega)).mono (fun tm' h' q => ⟨_, by omega, i + 1, rfl, hlt, q⟩) (fun _ _ q => q) (fun _ _ _ q => q.elim)
    · exact (f41_end t0 t1 t7 t8 (by omega)).mono (fun _ _ q => q.elim) (fun _ _ q => q.elim) (fun _ _ _ q => ⟨q.1, memS_no fun j hj => hu j hj (by omega)⟩)
  · simp [piece, sel, sub, Tryz.f41, hm]
theorem contains_fn : FnC TT Tryz.prog 24 (fun x : Pair => x.1.length < big) encP (fun x => .bool (memS x.1 x.2)) := by
  obtain ⟨fv, hv, hq⟩ := index_fn
  obtain ⟨C, hC, hH⟩ : ∃ C, ConS TT Tryz.prog C ∧ Has C 41 (fun x : Pair => x.1.length < big) encP (fun y => i64 (fv y)) :=
    ⟨_, addC_sound noC_sound hv, Has.add fun x y e => by rw [encP_inj e]⟩
  intro ⟨l, s⟩ hl h
  have hl : l.length < big := hl
  have hev := fun n m => hH.ev (T := TT) n (x := (l, s)) hl m
  refine fnC_of (v := .bool (memS l s)) (h1 := H.empty) tok C hC (.cons (strsV_pure l) (.cons (.ground rfl) .nil)) 2 (fn_run TT.f24 rfl rfl (vs := [.bool (memS l s)]) ?_) (.pure (.ground rfl)) h
  have := hq (l, s) hl
  simp only [encP] at hev
  simp +contextual [Tryz.f24, condK_if, hev]
  cases hm : memS l s <;> simp [hm] at this ⊢ <;> omega
noncomputable def f27B : Code := piece Tryz.f27 [true,false,true,false,false]
theorem f27_split : Tryz.f27.body = some (.seq (piece Tryz.f27 [false]) (.seq (.seq (piece Tryz.f27 [true,false,false]) (.block 0 (.loop f27B))) (piece Tryz.f27 [true,true]))) := rfl
section
variable {ev : Task → Ans} {l : List ByteArray} {s : ByteArray} {i : Nat} {tm : Tr Value} {h : H}
    (t0 : tm.get 0 = some (strsV l)) (t1 : tm.get 1 = some (.string s)) (t5 : tm.get 5 = some (i64 i))
include t0 t1 t5
theorem f27_iter (hu : Upto l s i) (hi : i < l.length) (hw1 : i + 1 ≤ big) :
    EndsAs (fun tm' h' => h' = h ∧ Upto l s (i + 1) ∧ tm'.get 0 = some (strsV l) ∧ tm'.get 1 = some (.string s) ∧ tm'.get 5 = some (i64 (i + 1 : Nat))) (fun tm' _ => tm'.get 4 = some (.bool (memS l s))) (fun _ _ _ => False)
      (runCode TT ev ⟨27, none⟩ f27B ⟨tm, [], h, none⟩) := by
  have e2 := wrapN hw1
  simp at e2
  by_cases he : l[i].toList = s.toList
  · have hm := memS_at hi he
    simp +contextual [f27B, piece, sel, sub, Tryz.f27, t0, t1, t5, hi, e2, condK_if, he, hm]
  · have hm := hu.next hi he
    simp +contextual [f27B, piece, sel, sub, Tryz.f27, t0, t1, t5, hi, e2, condK_if, he, hm]
theorem f27_end (hi : l.length ≤ i) :
    EndsAs (fun _ _ => False) (fun _ _ => False) (fun j tm' h' => j = 0 ∧ h' = h) (runCode TT ev ⟨27, none⟩ f27B ⟨tm, [], h, none⟩) := by
  have hi' : ¬ i < l.length := by omega
  simp +contextual [f27B, piece, sel, sub, Tryz.f27, t0, t1, t5, hi', condK_if]
end
theorem has_fn : FnC TT Tryz.prog 27 (fun x : Pair => x.1.length < big) encP (fun x => .bool (memS x.1 x.2)) := by
  obtain ⟨f, hf, hq⟩ : ∃ f : Pair → Bool, FnC TT Tryz.prog 27 (fun x : Pair => x.1.length < big) encP (fun x => .bool (f x)) ∧ ∀ x : Pair, x.1.length < big → f x = memS x.1 x.2 := by
    refine fnP Value.bool (fun (x : Pair) v => v = memS x.1 x.2) fun ⟨l, s⟩ hl => fnP_ends tok noC noC_sound (.cons (strsV_pure l) (.cons (.ground rfl) .nil)) (fun _ => .ground rfl) (l.length + 1) TT.f27 f27_split rfl ?_
    have hl : l.length < big := hl
    refine (ends_seqC (N' := fun tm h => h = H.empty ∧ tm.get 0 = some (strsV l) ∧ tm.get 1 = some (.string s)) ?_ fun tm h ⟨hh, t0, t1⟩ => ends_seqC (ends_seqC (N' := fun tm h => h = H.empty ∧ tm.get 0 = some (strsV l) ∧ tm.get 1 = some (.string s) ∧ tm.get 5 = some (i64 (0 : Nat))) ?_ fun tm h hI =>
        ends_loop (N := fun _ _ => memS l s = false) 0 (fun j tm h => ∃ i : Nat, j = l.length - i ∧ i ≤ l.length ∧ h = H.empty ∧ Upto l s i ∧ tm.get 0 = some (strsV l) ∧ tm.get 1 = some (.string s) ∧ tm.get 5 = some (i64 i)) l.length ⟨0, by omega, by omega, hI.1, fun _ _ h => by omega, hI.2⟩ (by omega) ?_) fun tm h hm => ?_).mono
        (N := fun _ _ => False) (R := fun tm' _ => tm'.get 4 = some (.bool (memS l s))) (X := fun _ _ _ => False) (fun _ _ q => q.elim) (fun _ _ q => ⟨_, q, rfl⟩) (fun _ _ _ q => q)
    · simp [piece, sel, sub, Tryz.f27]
    · simp [piece, sel, sub, Tryz.f27, t0, t1, hh]
    · rintro j tm h m ⟨i, rfl, hi, rfl, hu, t0, t1, t5⟩ -
      by_cases hlt : i < l.length
      · exact (f27_iter t0 t1 t5 hu hlt (by omega)).mono (fun tm' h' q => ⟨_, by omega, i + 1, rfl, hlt, q⟩) (fun _ _ q => q) (fun _ _ _ q => q.elim)
      · exact (f27_end t0 t1 t5 (by omega)).mono (fun _ _ q => q.elim) (fun _ _ q => q.elim) (fun _ _ _ q => ⟨q.1, memS_no fun j hj => hu j hj (by omega)⟩)
    · simp [piece, sel, sub, Tryz.f27, hm]
  intro x hx h
  have := hf x hx h
  simp only [hq x hx] at this
  exact this
end Go.Proofs.YtjhjnopfdnjcfaaGreat
