/- Layer 35: small functions, exactly. -/
import Derived.Test.YtkdfgoimgcegfaaGreatDoorC35
import Derived.Test.YtkdfgoimgcegfaaGreatDoorT35b
import Derived.Laws.Strings
set_option linter.unusedSectionVars false
set_option linter.unusedSimpArgs false
set_option linter.unusedVariables false
namespace Go.Am
open Go
variable {T : Tab} {P : Program}
/-- A function whose answer is known. -/
theorem fnX_ends (tok : TabOK T P) {g : FuncId} {fn : Func} {c : Code} {args : List Value} {v : Value} (C : Con) (hC : ConS T P C) (hp : PureL args) (hv : PureV v) (n : Nat) (hT : T.func g = some fn) (hb : fn.body = some c)
    {t : Nat} (hrs : fn.results.toList = [.tmp t]) (hcode : EndsAs (fun tm _ => tm.get t = some v) (fun tm _ => tm.get t = some v) (fun _ _ _ => False) (runCode T (evK T C (n + 1)) ⟨g, none⟩ c ⟨initT args 0 .nil, [], H.empty, none⟩)) :
    ∀ h, CallS T P (.func (.func g) #[] #[]) args h none (.ret v h none) := by
  intro h
  rcases hcode.cases with ⟨tm, m, e, q⟩ | ⟨tm, m, e, q⟩ | ⟨i, tm, m, e, q⟩
  · exact fnC_of tok C hC hp (n + 1) (fn_run hT hb hrs (vs := [v]) (h2 := m) (by rw [e]; simp [q])) (.pure hv) h
  · exact fnC_of tok C hC hp (n + 1) (fn_run hT hb hrs (vs := [v]) (h2 := m) (by rw [e]; simp [q])) (.pure hv) h
  · cases q
/-- By recursion, where the answer is known. -/
theorem fnX_rec {α : Type} {g : FuncId} {pre : α → Prop} {enc : α → List Value} {f : α → Value} (μ : α → Nat) (step : ∀ x, pre x → FnC T P g (fun y => μ y < μ x ∧ pre y) enc f → ∀ h, CallS T P (.func (.func g) #[] #[]) (enc x) h none (.ret (f x) h none)) :
    FnC T P g pre enc f := fnC_rec μ step
namespace Sym
@[simp] theorem bytes_beq (a b : ByteArray) : (a.toList == b.toList) = decide (a = b) := by
  rw [ByteArray.toList_eq, ByteArray.toList_eq]
  by_cases h : a = b
  · subst h; simp
  · have : ¬ a.data.toList = b.data.toList := fun e => h (by
      cases a; cases b
      exact congrArg ByteArray.mk (Array.toList_inj.1 e))
    rw [decide_eq_false h]
    simpa using this
@[simp] theorem bytes_isEmpty (a : ByteArray) : a.toList.isEmpty = decide (a = ⟨#[]⟩) := by
  rw [← bytes_beq]
  have : (⟨#[]⟩ : ByteArray).toList = [] := by rw [ByteArray.toList_eq]
  rw [this]; cases a.toList <;> rfl
@[simp] theorem boolIs_undef (w : Bool) : boolIs w (some undef) = some false := rfl
theorem index_strX (h : H) (t : TypeId) (s : ByteArray) (k : IntKind) (i : Nat) (hi : i < s.size) (hu : T.prog.underlying t = some .string) : indexOf T h t (some .string) (some (.string s)) (some (.int k i)) = .val (.int .u8 ((s[i]'hi).toNat : Int)) h := by
  show vresG h (pureRun T.prog (Instr.index t (.string s) (.int k i))) = _
  have e : pureRun T.prog (Instr.index t (.string s) (.int k i)) = some (.int .u8 (s[i]'hi).toNat) := by
    have b1 : ∀ {α β : Type} (m : Sem α) (f : α → Sem β), (m >>= f) = Sem.bind m f := fun _ _ => rfl
    have b2 : ∀ {α : Type} (a : α), (pure a : Sem α) = Sem.pure a := fun _ => rfl
    have b3 : ∀ {α : Type} (a : α), pureRun T.prog (Sem.pure a) = some a := fun _ => rfl
    have b4 : ∀ {α : Type} (f : Program → Sem α), pureRun T.prog (Sem.program f) = pureRun T.prog (f T.prog) := fun _ => rfl
    simp [Instr.index, b1, b2, underlying, program, asIntOf, Sem.bind, b3, b4, hu, hi]
  rw [e]; rfl
end Sym
end Go.Am
namespace Go.Proofs.YtkdfgoimgcegfaaGreatDoor
open Go Go.Am Go.Proofs Go.Am.Sym Go.Am.Eu
set_option maxRecDepth 10000
theorem TT.f184 : TT.func 184 = some Tryz.f184 := by kernel_rfl
theorem TT.f186 : TT.func 186 = some Tryz.f186 := by kernel_rfl
theorem TT.f185 : TT.func 185 = some Tryz.f185 := by kernel_rfl
theorem TT.f128 : TT.func 128 = some Tryz.f128 := by kernel_rfl
theorem letter184 : FnC TT Tryz.prog 184 (fun _ => True) (fun c => [.int .u8 c]) (fun c => .bool (letterB c)) := by
  refine fun c _ => fnX_ends tok noC noC_sound (.cons (.ground rfl) .nil) (.ground rfl) 1 TT.f184 rfl rfl ?_
  simp +contextual [Tryz.f184, condK_if, letterB]
  rcases Decidable.em (97 ≤ c) with h1 | h1 <;> rcases Decidable.em (c ≤ 122) with h2 | h2 <;> rcases Decidable.em (65 ≤ c) with h3 | h3 <;> rcases Decidable.em (c ≤ 90) with h4 | h4 <;> rcases Decidable.em (c = 95) with h5 | h5 <;> simp [h1, h2, h3, h4, h5]
theorem letter186 : FnC TT Tryz.prog 186 (fun _ => True) (fun c => [.int .u8 c]) (fun c => .bool (letterB c)) := by
  refine fun c _ => fnX_ends tok noC noC_sound (.cons (.ground rfl) .nil) (.ground rfl) 1 TT.f186 rfl rfl ?_
  simp +contextual [Tryz.f186, condK_if, letterB]
  rcases Decidable.em (97 ≤ c) with h1 | h1 <;> rcases Decidable.em (c ≤ 122) with h2 | h2 <;> rcases Decidable.em (65 ≤ c) with h3 | h3 <;> rcases Decidable.em (c ≤ 90) with h4 | h4 <;> rcases Decidable.em (c = 95) with h5 | h5 <;> simp [h1, h2, h3, h4, h5]
theorem kids185 : FnC TT Tryz.prog 185 (fun _ => True) (fun k => [i64 k]) (fun k => i64 (kidsN k : Nat)) := by
  refine fun k _ => fnX_ends tok noC noC_sound (.cons (.ground rfl) .nil) (.ground rfl) 1 TT.f185 rfl rfl ?_
  simp +contextual [Tryz.f185, condK_if]
  repeat' (first | omega | split | simp +contextual [condK_if, kidsN, *])
theorem below128 : FnC TT Tryz.prog 128 (fun _ => True) (fun x : Int × Nat => [i64 x.1, i64 (x.2 : Nat)]) (fun x => i64 (belowN x.1 x.2 : Nat)) := by
  refine fun ⟨k, i⟩ _ => fnX_ends tok noC noC_sound (.cons (.ground rfl) (.cons (.ground rfl) .nil)) (.ground rfl) 1 TT.f128 rfl rfl ?_
  have e1 : ((i : Int) = 1) = (i = 1) := by apply propext; omega
  have e2 : ((i : Int) = 2) = (i = 2) := by apply propext; omega
  simp +contextual [Tryz.f128, condK_if, e1, e2]
  repeat' (first | omega | split | simp +contextual [condK_if, belowN, *])
end Go.Proofs.YtkdfgoimgcegfaaGreatDoor
/- Layer 35: names, exactly. -/
namespace Go.Am.Eu
theorem nameGo_step {s : ByteArray} {i : Nat} (hi : i < s.size) (b : Bool) : nameGo ((bytesI s).drop i) b = match nameStep b ((s[i]'hi).toNat : Int) with
    | some b' => nameGo ((bytesI s).drop (i + 1)) b'
    | none => none := by
  rw [List.drop_eq_getElem_cons (by rw [bytesI_len]; exact hi), nameGo, bytesI_get s hi]; rfl
theorem nameGo_end {s : ByteArray} {i : Nat} (hi : s.size ≤ i) (b : Bool) : nameGo ((bytesI s).drop i) b = some b := by
  rw [List.drop_eq_nil_of_le (by rw [bytesI_len]; exact hi), nameGo]
end Go.Am.Eu
namespace Go.Proofs.YtkdfgoimgcegfaaGreatDoor
open Go Go.Am Go.Proofs Go.Am.Sym Go.Am.Eu
set_option maxRecDepth 10000
theorem TT.f123 : TT.func 123 = some Tryz.f123 := by kernel_rfl
theorem TT.f126 : TT.func 126 = some Tryz.f126 := by kernel_rfl
noncomputable def f123B : Code := piece Tryz.f123 [true,true,false,true,false,false]
theorem f123_split : Tryz.f123.body = some (.seq (piece Tryz.f123 [false]) (.seq (piece Tryz.f123 [true,false]) (.seq (.seq (piece Tryz.f123 [true,true,false,false]) (.block 0 (.loop f123B))) (piece Tryz.f123 [true,true,true])))) := rfl
section
variable {ev : Task → Ans} {s : ByteArray} {i : Nat} {b : Bool} {tm : Tr Value} {h : H}
    (t0 : tm.get 0 = some (.string s)) (t3 : tm.get 3 = some (.bool b)) (t7 : tm.get 7 = some (i64 (s.size : Nat))) (t8 : tm.get 8 = some (i64 i))
include t0 t3 t7 t8
theorem f123_iter (hev : ∀ x h, ev (call0 184 [.int .u8 x] h) = .ret (.bool (letterB x)) h none) (hi : i < s.size) (hw1 : i + 1 ≤ big) :
    EndsAs (fun tm' h' => h' = h ∧ tm'.get 0 = some (.string s) ∧ tm'.get 7 = some (i64 (s.size : Nat)) ∧ tm'.get 8 = some (i64 (i + 1 : Nat)) ∧ ∃ b', tm'.get 3 = some (.bool b') ∧ nameStep b ((s[i]'hi).toNat : Int) = some b')
      (fun tm' _ => tm'.get 2 = some (.bool false) ∧ nameStep b ((s[i]'hi).toNat : Int) = none) (fun _ _ _ => False)
      (runCode TT ev ⟨123, none⟩ f123B ⟨tm, [], h, none⟩) := by
  have e2 := wrapN hw1
  simp at e2
  have hc := index_strX (T := TT) h 9 s .i64 i hi under_9
  generalize ((s[i]'hi).toNat : Int) = c at hc ⊢
  cases hl : letterB c <;> cases b
  all_goals
    simp +contextual [f123B, piece, sel, sub, Tryz.f123, t0, t3, t7, t8, hi, hc, hev, e2, condK_if, nameStep, hl]
    try repeat' (first | omega | split | simp +contextual [t0, t3, t7, t8, hev, e2, condK_if, nameStep, hl, *])
theorem f123_end (hi : s.size ≤ i) :
    EndsAs (fun _ _ => False) (fun _ _ => False) (fun j tm' h' => j = 0 ∧ h' = h ∧ tm'.get 0 = some (.string s) ∧ tm'.get 3 = some (.bool b)) (runCode TT ev ⟨123, none⟩ f123B ⟨tm, [], h, none⟩) := by
  have hi' : ¬ i < s.size := by omega
  simp +contextual [f123B, piece, sel, sub, Tryz.f123, t0, t3, t7, t8, hi', condK_if]
end
theorem name123 : FnC TT Tryz.prog 123 (fun s => s.size < big) (fun s => [.string s]) (fun s => .bool (nameB s)) := by
  obtain ⟨C, hC, hH⟩ : ∃ C, ConS TT Tryz.prog C ∧ Has C 184 (fun _ : Int => True) (fun y => [.int .u8 y]) (fun y => .bool (letterB y)) :=
    ⟨_, addC_sound noC_sound letter184, Has.add fun x y e => by simp at e; rw [e]⟩
  refine fun s hs => fnX_ends tok C hC (.cons (.ground rfl) .nil) (.ground rfl) (s.size + 1) TT.f123 f123_split rfl ?_
  have hev := fun n x m => hH.ev (T := TT) n (x := x) trivial m
  have p0 : EndsAs (fun tm h => h = H.empty ∧ tm.get 0 = some (.string s)) (fun _ _ => False) (fun _ _ _ => False) (runCode TT (evK TT C (s.size + 1 + 1)) ⟨123, none⟩ (piece Tryz.f123 [false]) ⟨initT [.string s] 0 .nil, [], H.empty, none⟩) := by
    simp [piece, sel, sub, Tryz.f123]
  have p1 : ∀ tm h, (h = H.empty ∧ tm.get 0 = some (.string s)) → EndsAs (fun tm h => h = H.empty ∧ tm.get 0 = some (.string s) ∧ tm.get 3 = some (.bool true)) (fun _ _ => False) (fun _ _ _ => False) (runCode TT (evK TT C (s.size + 1 + 1)) ⟨123, none⟩ (piece Tryz.f123 [true,false]) ⟨tm, [], h, none⟩) := by
    rintro tm h ⟨rfl, t0⟩
    simp [piece, sel, sub, Tryz.f123, t0]
  have p2 : ∀ tm h, (h = H.empty ∧ tm.get 0 = some (.string s) ∧ tm.get 3 = some (.bool true)) → EndsAs (fun tm h => h = H.empty ∧ tm.get 0 = some (.string s) ∧ tm.get 3 = some (.bool true) ∧ tm.get 7 = some (i64 (s.size : Nat)) ∧ tm.get 8 = some (i64 (0 : Nat))) (fun _ _ => False) (fun _ _ _ => False) (runCode TT (evK TT C (s.size + 1 + 1)) ⟨123, none⟩ (piece Tryz.f123 [true,true,false,false]) ⟨tm, [], h, none⟩) := by
    rintro tm h ⟨rfl, t0, t3⟩
    simp [piece, sel, sub, Tryz.f123, t0, t3]
  refine ends_seqC (p0.mono (fun _ _ q => q) (fun _ _ q => q.elim) (fun _ _ _ q => q)) fun tm h q => ends_seqC ((p1 tm h q).mono (fun _ _ q => q) (fun _ _ q => q.elim) (fun _ _ _ q => q)) fun tm h q =>
    ends_seqC (N' := fun tm h => tm.get 0 = some (.string s) ∧ ∃ b, tm.get 3 = some (.bool b) ∧ nameGo (bytesI s) true = some b) (ends_seqC ((p2 tm h q).mono (fun _ _ q => q) (fun _ _ q => q.elim) (fun _ _ _ q => q)) fun tm h q => ?_) fun tm h q => ?_
  · obtain ⟨rfl, t0, t3, t7, t8⟩ := q
    refine ends_loop 0 (fun j tm h => ∃ i b, j = s.size - i ∧ i ≤ s.size ∧ h = H.empty ∧ tm.get 0 = some (.string s) ∧ tm.get 3 = some (.bool b) ∧ tm.get 7 = some (i64 (s.size : Nat)) ∧ tm.get 8 = some (i64 (i : Nat)) ∧ nameGo (bytesI s) true = nameGo ((bytesI s).drop i) b) s.size ⟨0, true, rfl, by omega, rfl, t0, t3, t7, t8, by rw [List.drop_zero]⟩ (by omega) ?_
    rintro j tm h m ⟨i, b, rfl, hi, rfl, t0, t3, t7, t8, hg⟩ -
    by_cases hlt : i < s.size
    · refine (f123_iter t0 t3 t7 t8 (hev m) hlt (by omega)).mono (fun tm' h' q => ?_) (fun tm' _ q => ?_) (fun _ _ _ q => q.elim)
      · obtain ⟨rfl, k0, k7, k8, b', k3, e⟩ := q
        exact ⟨_, by omega, i + 1, b', rfl, hlt, rfl, k0, k3, k7, k8, by rw [hg, nameGo_step hlt, e]⟩
      · rw [q.1]
        have : nameGo (bytesI s) true = none := by rw [hg, nameGo_step hlt, q.2]
        simp [nameB, this]
    · refine (f123_end t0 t3 t7 t8 (by omega)).mono (fun _ _ q => q.elim) (fun _ _ q => q.elim) (fun _ _ _ q => ⟨q.1, q.2.2.1, b, q.2.2.2, ?_⟩)
      rw [hg, nameGo_end (by omega)]
  · obtain ⟨t0, b, t3, hg⟩ := q
    simp +contextual [piece, sel, sub, Tryz.f123, t0, t3, condK_if, nameB, hg]
    have e : ((s.size : Int) ≤ 64) = (s.size ≤ 64) := by apply propext; omega
    cases b <;> simp [e]
noncomputable def f126B : Code := piece Tryz.f126 [true,true,true,false,true,false,false]
theorem f126_split : Tryz.f126.body = some (.seq (piece Tryz.f126 [false]) (.seq (piece Tryz.f126 [true,false]) (.seq (piece Tryz.f126 [true,true,false]) (.seq (.seq (piece Tryz.f126 [true,true,true,false,false]) (.block 0 (.loop f126B))) (piece Tryz.f126 [true,true,true,true]))))) := rfl
section
variable {ev : Task → Ans} {s : ByteArray} {i : Nat} {b : Bool} {tm : Tr Value} {h : H}
    (t0 : tm.get 0 = some (.string s)) (t3 : tm.get 3 = some (.bool b)) (t4 : tm.get 4 = some (i64 i))
include t0 t3 t4
theorem f126_iter (hev : ∀ x h, ev (call0 186 [.int .u8 x] h) = .ret (.bool (letterB x)) h none) (hi : i < s.size) (hw1 : i + 1 ≤ big) :
    EndsAs (fun tm' h' => h' = h ∧ tm'.get 0 = some (.string s) ∧ tm'.get 4 = some (i64 (i + 1 : Nat)) ∧ ∃ b', tm'.get 3 = some (.bool b') ∧ nameStep b ((s[i]'hi).toNat : Int) = some b')
      (fun tm' _ => tm'.get 2 = some (.bool false) ∧ nameStep b ((s[i]'hi).toNat : Int) = none) (fun _ _ _ => False)
      (runCode TT ev ⟨126, none⟩ f126B ⟨tm, [], h, none⟩) := by
  have e2 := wrapN hw1
  simp at e2
  have hc := index_strX (T := TT) h 9 s .i64 i hi under_9
  generalize ((s[i]'hi).toNat : Int) = c at hc ⊢
  have hd : letterB c = true → ¬ c = 46 := fun e q => by rw [q] at e; exact absurd e (by decide)
  cases hl : letterB c <;> cases b
  all_goals
    first | have hd := hd hl | skip
    simp +contextual [f126B, piece, sel, sub, Tryz.f126, t0, t3, t4, hi, hc, hev, e2, condK_if, nameStep, hl]
    try repeat' (first | omega | split | simp +contextual [t0, t3, t4, hev, e2, condK_if, nameStep, hl, *])
theorem f126_end (hi : s.size ≤ i) :
    EndsAs (fun _ _ => False) (fun _ _ => False) (fun j tm' h' => j = 0 ∧ h' = h ∧ tm'.get 0 = some (.string s) ∧ tm'.get 3 = some (.bool b)) (runCode TT ev ⟨126, none⟩ f126B ⟨tm, [], h, none⟩) := by
  have hi' : ¬ i < s.size := by omega
  simp +contextual [f126B, piece, sel, sub, Tryz.f126, t0, t3, t4, hi', condK_if]
end
theorem nameB_empty : nameB ⟨#[]⟩ = false := by
  have e : nameGo (bytesI ⟨#[]⟩) true = some true := rfl
  simp [nameB, e]
theorem name126 : FnC TT Tryz.prog 126 (fun s => s.size < big) (fun s => [.string s]) (fun s => .bool (nameB s)) := by
  obtain ⟨C, hC, hH⟩ : ∃ C, ConS TT Tryz.prog C ∧ Has C 186 (fun _ : Int => True) (fun y => [.int .u8 y]) (fun y => .bool (letterB y)) :=
    ⟨_, addC_sound noC_sound letter186, Has.add fun x y e => by simp at e; rw [e]⟩
  refine fun s hs => fnX_ends tok C hC (.cons (.ground rfl) .nil) (.ground rfl) (s.size + 1) TT.f126 f126_split rfl ?_
  have hev := fun n x m => hH.ev (T := TT) n (x := x) trivial m
  have e64 : (64 < (s.size : Int)) = (64 < s.size) := by apply propext; omega
  have p0 : EndsAs (fun tm h => h = H.empty ∧ tm.get 0 = some (.string s)) (fun _ _ => False) (fun _ _ _ => False) (runCode TT (evK TT C (s.size + 1 + 1)) ⟨126, none⟩ (piece Tryz.f126 [false]) ⟨initT [.string s] 0 .nil, [], H.empty, none⟩) := by
    simp [piece, sel, sub, Tryz.f126]
  have p1 : ∀ tm h, (h = H.empty ∧ tm.get 0 = some (.string s)) → EndsAs (fun tm h => h = H.empty ∧ tm.get 0 = some (.string s) ∧ s.size ≤ 64) (fun tm _ => tm.get 2 = some (.bool (nameB s))) (fun _ _ _ => False) (runCode TT (evK TT C (s.size + 1 + 1)) ⟨126, none⟩ (piece Tryz.f126 [true,false]) ⟨tm, [], h, none⟩) := by
    rintro tm h ⟨rfl, t0⟩
    by_cases h1 : s = ⟨#[]⟩
    · subst h1; simp [piece, sel, sub, Tryz.f126, t0, nameB_empty, condK_if]
    · by_cases h2 : 64 < s.size
      · have : nameB s = false := by simp [nameB]; intro; omega
        simp [piece, sel, sub, Tryz.f126, t0, h1, h2, this, condK_if, e64]
      · simp [piece, sel, sub, Tryz.f126, t0, h1, h2, condK_if, e64]
        omega
  have p2 : ∀ tm h, (h = H.empty ∧ tm.get 0 = some (.string s) ∧ s.size ≤ 64) → EndsAs (fun tm h => h = H.empty ∧ tm.get 0 = some (.string s) ∧ s.size ≤ 64 ∧ tm.get 3 = some (.bool true)) (fun _ _ => False) (fun _ _ _ => False) (runCode TT (evK TT C (s.size + 1 + 1)) ⟨126, none⟩ (piece Tryz.f126 [true,true,false]) ⟨tm, [], h, none⟩) := by
    rintro tm h ⟨rfl, t0, h6⟩
    simp [piece, sel, sub, Tryz.f126, t0, h6]
  have p3 : ∀ tm h, (h = H.empty ∧ tm.get 0 = some (.string s) ∧ s.size ≤ 64 ∧ tm.get 3 = some (.bool true)) → EndsAs (fun tm h => h = H.empty ∧ tm.get 0 = some (.string s) ∧ s.size ≤ 64 ∧ tm.get 3 = some (.bool true) ∧ tm.get 4 = some (i64 (0 : Nat))) (fun _ _ => False) (fun _ _ _ => False) (runCode TT (evK TT C (s.size + 1 + 1)) ⟨126, none⟩ (piece Tryz.f126 [true,true,true,false,false]) ⟨tm, [], h, none⟩) := by
    rintro tm h ⟨rfl, t0, h6, t3⟩
    simp [piece, sel, sub, Tryz.f126, t0, t3, h6]
  refine ends_seqC (p0.mono (fun _ _ q => q) (fun _ _ q => q.elim) (fun _ _ _ q => q)) fun tm h q => ends_seqC (p1 tm h q) fun tm h q => ends_seqC ((p2 tm h q).mono (fun _ _ q => q) (fun _ _ q => q.elim) (fun _ _ _ q => q)) fun tm h q =>
    ends_seqC (N' := fun tm h => s.size ≤ 64 ∧ ∃ b, tm.get 3 = some (.bool b) ∧ nameGo (bytesI s) true = some b) (ends_seqC ((p3 tm h q).mono (fun _ _ q => q) (fun _ _ q => q.elim) (fun _ _ _ q => q)) fun tm h q => ?_) fun tm h q => ?_
  · obtain ⟨rfl, t0, h6, t3, t4⟩ := q
    refine ends_loop 0 (fun j tm h => ∃ i b, j = s.size - i ∧ i ≤ s.size ∧ h = H.empty ∧ tm.get 0 = some (.string s) ∧ tm.get 3 = some (.bool b) ∧ tm.get 4 = some (i64 (i : Nat)) ∧ nameGo (bytesI s) true = nameGo ((bytesI s).drop i) b) s.size ⟨0, true, rfl, by omega, rfl, t0, t3, t4, by rw [List.drop_zero]⟩ (by omega) ?_
    rintro j tm h m ⟨i, b, rfl, hi, rfl, t0, t3, t4, hg⟩ -
    by_cases hlt : i < s.size
    · refine (f126_iter t0 t3 t4 (hev m) hlt (by omega)).mono (fun tm' h' q => ?_) (fun tm' _ q => ?_) (fun _ _ _ q => q.elim)
      · obtain ⟨rfl, k0, k4, b', k3, e⟩ := q
        exact ⟨_, by omega, i + 1, b', rfl, hlt, rfl, k0, k3, k4, by rw [hg, nameGo_step hlt, e]⟩
      · rw [q.1]
        have : nameGo (bytesI s) true = none := by rw [hg, nameGo_step hlt, q.2]
        simp [nameB, this]
    · refine (f126_end t0 t3 t4 (by omega)).mono (fun _ _ q => q.elim) (fun _ _ q => q.elim) (fun _ _ _ q => ⟨q.1, h6, b, q.2.2.2, ?_⟩)
      rw [hg, nameGo_end (by omega)]
  · obtain ⟨h6, b, t3, hg⟩ := q
    simp +contextual [piece, sel, sub, Tryz.f126, t3, condK_if, nameB, hg, h6]
end Go.Proofs.YtkdfgoimgcegfaaGreatDoor
