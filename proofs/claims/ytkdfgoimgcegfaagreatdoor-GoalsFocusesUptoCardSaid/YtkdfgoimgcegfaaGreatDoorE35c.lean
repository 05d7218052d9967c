/- Layer 35: the form of a node, exactly. -/
import Derived.Test.YtkdfgoimgcegfaaGreatDoorE35a
set_option linter.unusedSectionVars false
set_option linter.unusedSimpArgs false
set_option linter.unusedVariables false
namespace Go.Am
open Go
variable {T : Tab} {P : Program}
def ansV : Ans → Option Value
  | .ret v _ none => some v
  | _ => none
theorem ansV_some {a : Ans} {v : Value} (h : ansV a = some v) : ∃ m, a = .ret v m none := by
  unfold ansV at h
  split at h
  · injection h with h; subst h; exact ⟨_, rfl⟩
  · cases h
/-- A closed run of a function without parameters. -/
theorem closed_fn (tok : TabOK T P) (n : Nat) {g : FuncId} {args : List Value} {v : Value} (hp : PureL args) (hv : PureV v) (he : ansV (callFn T (eval T n) g args H.empty none (T.func g)) = some v) (h : H) : CallS T P (.func (.func g) #[] #[]) args h none (.ret v h none) := by
  obtain ⟨m, e⟩ := ansV_some he
  exact contract tok (eval_sound tok n) hp e rfl (.ret (.pure hv))
end Go.Am
namespace Go.Proofs.YtkdfgoimgcegfaaGreatDoor
open Go Go.Am Go.Proofs Go.Am.Sym Go.Am.Eu
set_option maxRecDepth 10000
theorem TT.f120 : TT.func 120 = some Tryz.f120 := by kernel_rfl
theorem TT.f122 : TT.func 122 = some Tryz.f122 := by kernel_rfl
theorem TT.f125 : TT.func 125 = some Tryz.f125 := by kernel_rfl
/-- What the kinds use: index, name, levels, kids, the kid below a binder. -/
def useL : Nat → Bool × Bool × Int × Int × Int
  | 0 => (true, false, 0, 0, -1)
  | 1 => (false, false, 0, 0, -1)
  | 2 => (false, false, 1, 0, -1)
  | 3 => (false, true, -1, 0, -1)
  | 4 => (false, false, 0, 2, -1)
  | 5 => (false, false, 0, 2, 1)
  | 6 => (false, false, 0, 2, 1)
  | 7 => (false, false, 0, 2, 1)
  | 8 => (false, false, 0, 3, -1)
  | 9 => (false, false, 0, 1, -1)
  | 10 => (false, false, 0, 1, -1)
  | 11 => (false, false, 0, 3, 2)
  | 12 => (true, false, 0, 0, -1)
  | _ => (false, false, 0, 0, 0)
def useC (k : Nat) : List Value := [.bool (useL k).1, .bool (useL k).2.1, i64 (useL k).2.2.1, i64 (useL k).2.2.2.1, i64 (useL k).2.2.2.2]
def usesL : List Value := useC 0 ++ (useC 1 ++ (useC 2 ++ (useC 3 ++ (useC 4 ++ (useC 5 ++ (useC 6 ++ (useC 7 ++ (useC 8 ++ (useC 9 ++ (useC 10 ++ (useC 11 ++ useC 12)))))))))))
def usesV : Value := .agg ⟨usesL⟩
theorem usesV_pure : PureV usesV := .agg (PureL.ground rfl)
theorem uses120 : FnC TT Tryz.prog 120 (fun _ : Unit => True) (fun _ => []) (fun _ => usesV) :=
  fun _ _ h => closed_fn tok 3 .nil usesV_pure (by kernel_rfl) h
theorem kind_cases {k : Int} (h0 : 0 ≤ k) (h1 : k < 13) : k = 0 ∨ k = 1 ∨ k = 2 ∨ k = 3 ∨ k = 4 ∨ k = 5 ∨ k = 6 ∨ k = 7 ∨ k = 8 ∨ k = 9 ∨ k = 10 ∨ k = 11 ∨ k = 12 := by omega
theorem idx184 (h : H) {k : Int} (h0 : 0 ≤ k) (h1 : k < 13) : indexOf TT h 184 (TT.under 184) (some usesV) (some (i64 k)) = .val (.agg ⟨useC k.toNat⟩) h := by
  rcases kind_cases h0 h1 with rfl | rfl | rfl | rfl | rfl | rfl | rfl | rfl | rfl | rfl | rfl | rfl | rfl <;> kernel_rfl
noncomputable def ckH (t : Term) : H := H.empty.new (.cells (cellsL (tv t)) 26 false)
@[simp] theorem ckH_base (t : Term) : (ckH t).base = 0 := by simp [ckH]
@[simp] theorem ckH_next (t : Term) : (ckH t).next = 1 := by simp [ckH]
@[simp] theorem ckH_get (t : Term) : (ckH t).get 0 = some (.cells (cellsL (tv t)) 26 false) := by simp [ckH]
theorem formB_false {t : Term} (h : ¬ formP t) : formB t = false := by simp [formB, h]
theorem formB_true {t : Term} (h : formP t) : formB t = true := by simp [formB, h]
theorem f125_split : Tryz.f125.body = some (.seq (piece Tryz.f125 [false]) (.seq (piece Tryz.f125 [true,false]) (.seq (piece Tryz.f125 [true,true,false]) (.seq (piece Tryz.f125 [true,true,true,false]) (.seq (piece Tryz.f125 [true,true,true,true,false]) (piece Tryz.f125 [true,true,true,true,true])))))) := rfl
section
variable {ev : Task → Ans} {t : Term} {tm : Tr Value} {h : H}
theorem f125_p0 : EndsAs (fun tm h => h = ckH t ∧ tm.get 1 = some (.pointer (some ⟨0, 0, none⟩))) (fun _ _ => False) (fun _ _ _ => False) (runCode TT ev ⟨125, none⟩ (piece Tryz.f125 [false]) ⟨initT [tv t] 0 .nil, [], H.empty, none⟩) := by
  simp [piece, sel, sub, Tryz.f125, ckH]
variable (t1 : h = ckH t ∧ tm.get 1 = some (.pointer (some ⟨0, 0, none⟩)))
include t1
theorem f125_p1 (hev : ∀ k h, ev (call0 185 [i64 k] h) = .ret (i64 (kidsN k : Nat)) h none) :
    EndsAs (fun tm h => ((0 ≤ t.kind ∧ t.kind < 13) ∧ t.kids.length = kidsN t.kind) ∧ h = ckH t ∧ tm.get 1 = some (.pointer (some ⟨0, 0, none⟩))) (fun tm _ => tm.get 2 = some (.bool false) ∧ ¬ ((0 ≤ t.kind ∧ t.kind < 13) ∧ t.kids.length = kidsN t.kind)) (fun _ _ _ => False) (runCode TT ev ⟨125, none⟩ (piece Tryz.f125 [true,false]) ⟨tm, [], h, none⟩) := by
  obtain ⟨rfl, t1⟩ := t1
  have e : ((t.kids.length : Int) = (kidsN t.kind : Int)) = (t.kids.length = kidsN t.kind) := by apply propext; omega
  simp +contextual [piece, sel, sub, Tryz.f125, t1, condK_if, hev, e]
  by_cases h0 : t.kind < 0
  · simp [h0]; omega
  · by_cases h1 : 13 ≤ t.kind
    · simp [h0, h1]; omega
    · by_cases h2 : t.kids.length = kidsN t.kind
      · have k0 : 0 ≤ t.kind := by omega
        have k1 : t.kind < 13 := by omega
        simp [h0, h1, h2, k0, k1, t1]
      · simp [h0, h1, h2]
theorem f125_p2 : EndsAs (fun tm h => (t.index = 0 ∨ t.kind = 0 ∨ t.kind = 12) ∧ h = ckH t ∧ tm.get 1 = some (.pointer (some ⟨0, 0, none⟩))) (fun tm _ => tm.get 2 = some (.bool false) ∧ ¬ (t.index = 0 ∨ t.kind = 0 ∨ t.kind = 12)) (fun _ _ _ => False) (runCode TT ev ⟨125, none⟩ (piece Tryz.f125 [true,true,false]) ⟨tm, [], h, none⟩) := by
  obtain ⟨rfl, t1⟩ := t1
  by_cases h0 : t.index = 0 <;> by_cases h1 : t.kind = 0 <;> by_cases h2 : t.kind = 12 <;> simp +contextual [piece, sel, sub, Tryz.f125, t1, condK_if, h0, h1, h2]
theorem f125_p3 : EndsAs (fun tm h => (t.name = ⟨#[]⟩ ∨ t.kind = 3) ∧ h = ckH t ∧ tm.get 1 = some (.pointer (some ⟨0, 0, none⟩))) (fun tm _ => tm.get 2 = some (.bool false) ∧ ¬ (t.name = ⟨#[]⟩ ∨ t.kind = 3)) (fun _ _ _ => False) (runCode TT ev ⟨125, none⟩ (piece Tryz.f125 [true,true,true,false]) ⟨tm, [], h, none⟩) := by
  obtain ⟨rfl, t1⟩ := t1
  by_cases h0 : t.name = ⟨#[]⟩ <;> by_cases h1 : t.kind = 3 <;> simp +contextual [piece, sel, sub, Tryz.f125, t1, condK_if, h0, h1]
theorem f125_p4 : EndsAs (fun tm h => ¬ t.kind = 2 ∧ h = ckH t ∧ tm.get 1 = some (.pointer (some ⟨0, 0, none⟩))) (fun tm _ => t.kind = 2 ∧ tm.get 2 = some (.bool (decide (t.levels.length = 1)))) (fun _ _ _ => False) (runCode TT ev ⟨125, none⟩ (piece Tryz.f125 [true,true,true,true,false]) ⟨tm, [], h, none⟩) := by
  obtain ⟨rfl, t1⟩ := t1
  have e : ((t.levels.length : Int) = 1) = (t.levels.length = 1) := by apply propext; omega
  by_cases h0 : t.kind = 2 <;> simp +contextual [piece, sel, sub, Tryz.f125, t1, condK_if, h0, e]
theorem f125_p5 : EndsAs (fun _ _ => False) (fun tm _ => tm.get 2 = some (.bool (decide (t.levels.length = 0 ∨ t.kind = 3)))) (fun _ _ _ => False) (runCode TT ev ⟨125, none⟩ (piece Tryz.f125 [true,true,true,true,true]) ⟨tm, [], h, none⟩) := by
  obtain ⟨rfl, t1⟩ := t1
  have e : ((t.levels.length : Int) = 0) = (t.levels.length = 0) := by apply propext; omega
  by_cases h0 : t.levels.length = 0 <;> by_cases h1 : t.kind = 3 <;> simp +contextual [piece, sel, sub, Tryz.f125, t1, condK_if, h0, h1, e]
end
theorem form125 : FnC TT Tryz.prog 125 (fun _ => True) (fun t => [tv t]) (fun t => .bool (formB t)) := by
  obtain ⟨C, hC, hH⟩ : ∃ C, ConS TT Tryz.prog C ∧ Has C 185 (fun _ : Int => True) (fun y => [i64 y]) (fun y => i64 (kidsN y : Nat)) :=
    ⟨_, addC_sound noC_sound kids185, Has.add fun x y e => by simp at e; rw [e]⟩
  refine fun t _ => fnX_ends tok C hC (.cons (tv_pure t) .nil) (.ground rfl) 1 TT.f125 f125_split rfl ?_
  have hev := fun n x m => hH.ev (T := TT) n (x := x) trivial m
  refine ends_seqC (f125_p0.mono (fun _ _ q => q) (fun _ _ q => q.elim) (fun _ _ _ q => q)) fun tm h q0 => ends_seqC ((f125_p1 q0 (hev _)).mono (fun _ _ q => q) (fun _ _ q => ?_) (fun _ _ _ q => q)) fun tm h q1 =>
    ends_seqC ((f125_p2 q1.2).mono (fun _ _ q => q) (fun _ _ q => ?_) (fun _ _ _ q => q)) fun tm h q2 => ends_seqC ((f125_p3 q2.2).mono (fun _ _ q => q) (fun _ _ q => ?_) (fun _ _ _ q => q)) fun tm h q3 =>
    ends_seqC ((f125_p4 q3.2).mono (fun _ _ q => q) (fun _ _ q => ?_) (fun _ _ _ q => q)) fun tm h q4 => (f125_p5 q4.2).mono (fun _ _ q => q.elim) (fun _ _ q => ?_) (fun _ _ _ q => q)
  · show _ = some (Value.bool (formB t))
    rw [q.1, formB_false fun hf => q.2 ⟨hf.1, hf.2.1⟩]
  · show _ = some (Value.bool (formB t))
    rw [q.1, formB_false fun hf => q.2 hf.2.2.1]
  · show _ = some (Value.bool (formB t))
    rw [q.1, formB_false fun hf => q.2 hf.2.2.2.1]
  · rw [q.2]
    have : formP t ↔ t.levels.length = 1 := by
      unfold formP; rw [if_pos q.1]
      exact ⟨fun hf => hf.2.2.2.2, fun hl => ⟨q1.1.1, q1.1.2, q2.1, q3.1, hl⟩⟩
    simp [formB, this]
  · rw [q]
    have : formP t ↔ (t.levels.length = 0 ∨ t.kind = 3) := by
      unfold formP; rw [if_neg q4.1]
      exact ⟨fun hf => hf.2.2.2.2, fun hl => ⟨q1.1.1, q1.1.2, q2.1, q3.1, hl⟩⟩
    simp [formB, this]
/-! The same, in the program's text. -/
theorem f122_split : Tryz.f122.body = some (.seq (piece Tryz.f122 [false]) (.seq (piece Tryz.f122 [true,false]) (.seq (piece Tryz.f122 [true,true,false]) (piece Tryz.f122 [true,true,true])))) := rfl
@[simp] theorem z183 : zero TT 183 = some (.agg ⟨[.bool false, .bool false, i64 0, i64 0, i64 0]⟩) := by kernel_rfl
theorem s183 : Am.size TT 183 = some 5 := by kernel_rfl
@[simp] theorem fa_183_0 (h : H) (b o : Nat) : fieldAddrOf TT h 183 0 (some (.pointer (some ⟨b, o, none⟩))) = .val (.pointer (some ⟨b, o + 0, none⟩)) h := by kernel_rfl
@[simp] theorem fa_183_1 (h : H) (b o : Nat) : fieldAddrOf TT h 183 1 (some (.pointer (some ⟨b, o, none⟩))) = .val (.pointer (some ⟨b, o + 1, none⟩)) h := by kernel_rfl
@[simp] theorem fa_183_2 (h : H) (b o : Nat) : fieldAddrOf TT h 183 2 (some (.pointer (some ⟨b, o, none⟩))) = .val (.pointer (some ⟨b, o + 2, none⟩)) h := by kernel_rfl
@[simp] theorem fa_183_3 (h : H) (b o : Nat) : fieldAddrOf TT h 183 3 (some (.pointer (some ⟨b, o, none⟩))) = .val (.pointer (some ⟨b, o + 3, none⟩)) h := by kernel_rfl
@[simp] theorem fa_183_4 (h : H) (b o : Nat) : fieldAddrOf TT h 183 4 (some (.pointer (some ⟨b, o, none⟩))) = .val (.pointer (some ⟨b, o + 4, none⟩)) h := by kernel_rfl
@[simp] theorem p4_use0 (k : Nat) : partOf TT 4 (useC k) 0 = some (.bool (useL k).1) := by rw [p4]; rfl
@[simp] theorem p4_use1 (k : Nat) : partOf TT 4 (useC k) 1 = some (.bool (useL k).2.1) := by rw [p4]; rfl
@[simp] theorem p3_use2 (k : Nat) : partOf TT 3 (useC k) 2 = some (i64 (useL k).2.2.1) := by rw [p3]; rfl
@[simp] theorem p3_use3 (k : Nat) : partOf TT 3 (useC k) 3 = some (i64 (useL k).2.2.2.1) := by rw [p3]; rfl
@[simp] theorem p3_use4 (k : Nat) : partOf TT 3 (useC k) 4 = some (i64 (useL k).2.2.2.2) := by rw [p3]; rfl
@[simp] theorem store183 (h : H) (b k : Nat) : storeAt TT h 183 (.agg ⟨useC k⟩) (.pointer (some ⟨b, 0, none⟩)) = storeIn h b 0 (useC k) (h.get b) := by
  show onB none (storeIn h b 0 (useC k) (h.get b)) (fits (useC k) (Am.size TT 183)) = _
  rw [s183]; rfl
@[simp] theorem storeIn_use (h : H) (b k : Nat) (v w x y z : Value) (e : TypeId) (g : Bool) : storeIn h b 0 (useC k) (some (.cells [v, w, x, y, z] e g)) = some (h.put b (.cells (useC k) e g)) := rfl
section
variable {ev : Task → Ans} {t : Term} {tm : Tr Value} {h : H}
theorem f122_p0 : EndsAs (fun tm h => h = ckH t ∧ tm.get 1 = some (.pointer (some ⟨0, 0, none⟩))) (fun _ _ => False) (fun _ _ _ => False) (runCode TT ev ⟨122, none⟩ (piece Tryz.f122 [false]) ⟨initT [tv t] 0 .nil, [], H.empty, none⟩) := by
  simp [piece, sel, sub, Tryz.f122, ckH]
theorem f122_p1 (t1 : h = ckH t ∧ tm.get 1 = some (.pointer (some ⟨0, 0, none⟩))) :
    EndsAs (fun tm h => (0 ≤ t.kind ∧ t.kind < 13) ∧ h = ckH t ∧ tm.get 1 = some (.pointer (some ⟨0, 0, none⟩))) (fun tm _ => tm.get 2 = some (.bool false) ∧ ¬ (0 ≤ t.kind ∧ t.kind < 13)) (fun _ _ _ => False) (runCode TT ev ⟨122, none⟩ (piece Tryz.f122 [true,false]) ⟨tm, [], h, none⟩) := by
  obtain ⟨rfl, t1⟩ := t1
  by_cases h0 : t.kind < 0
  · simp +contextual [piece, sel, sub, Tryz.f122, t1, condK_if, h0]; omega
  · by_cases h1 : 13 ≤ t.kind
    · simp +contextual [piece, sel, sub, Tryz.f122, t1, condK_if, h0, h1]; try omega
    · have k0 : 0 ≤ t.kind := by omega
      have k1 : t.kind < 13 := by omega
      simp +contextual [piece, sel, sub, Tryz.f122, t1, condK_if, h0, h1, k0, k1]
theorem f122_p2 (t1 : (0 ≤ t.kind ∧ t.kind < 13) ∧ h = ckH t ∧ tm.get 1 = some (.pointer (some ⟨0, 0, none⟩))) (hev : ∀ h, ev (call0 120 [] h) = .ret usesV h none) :
    EndsAs (fun tm h => (0 ≤ t.kind ∧ t.kind < 13) ∧ h.base = 0 ∧ h.next = 2 ∧ h.get 0 = some (.cells (cellsL (tv t)) 26 false) ∧ h.get 1 = some (.cells (useC t.kind.toNat) 183 false) ∧ tm.get 1 = some (.pointer (some ⟨0, 0, none⟩)) ∧ tm.get 3 = some (.pointer (some ⟨1, 0, none⟩))) (fun _ _ => False) (fun _ _ _ => False)
      (runCode TT ev ⟨122, none⟩ (piece Tryz.f122 [true,true,false]) ⟨tm, [], h, none⟩) := by
  obtain ⟨hk, rfl, t1⟩ := t1
  simp +contextual [piece, sel, sub, Tryz.f122, t1, condK_if, hev, idx184 _ hk.1 hk.2, hk]
  rw [done_new (hb := by simp) (ha := by kernel_rfl)]
  simp
  rw [done_put (hb := by simp) (hlt := by simp) (ha := by kernel_rfl)]
  simp [t1]
end
set_option maxHeartbeats 2000000 in
theorem f122_p3 {ev : Task → Ans} {t : Term} {tm : Tr Value} {h : H} (q : (0 ≤ t.kind ∧ t.kind < 13) ∧ h.base = 0 ∧ h.next = 2 ∧ h.get 0 = some (.cells (cellsL (tv t)) 26 false) ∧ h.get 1 = some (.cells (useC t.kind.toNat) 183 false) ∧ tm.get 1 = some (.pointer (some ⟨0, 0, none⟩)) ∧ tm.get 3 = some (.pointer (some ⟨1, 0, none⟩))) :
    EndsAs (fun _ _ => False) (fun tm _ => tm.get 2 = some (.bool (formB t))) (fun _ _ _ => False) (runCode TT ev ⟨122, none⟩ (piece Tryz.f122 [true,true,true]) ⟨tm, [], h, none⟩) := by
  obtain ⟨hk, hb, hn, h0, h1, t1, t3⟩ := q
  have el : ((t.levels.length : Int) = 0) = (t.levels.length = 0) := by apply propext; omega
  have el1 : ((t.levels.length : Int) = 1) = (t.levels.length = 1) := by apply propext; omega
  have ek0 : ((t.kids.length : Int) = 0) = (t.kids.length = 0) := by apply propext; omega
  have ek1 : ((t.kids.length : Int) = 1) = (t.kids.length = 1) := by apply propext; omega
  have ek2 : ((t.kids.length : Int) = 2) = (t.kids.length = 2) := by apply propext; omega
  have ek3 : ((t.kids.length : Int) = 3) = (t.kids.length = 3) := by apply propext; omega
  rcases kind_cases hk.1 hk.2 with e | e | e | e | e | e | e | e | e | e | e | e | e
  all_goals
    rw [e] at h1
    have hf : formB t = (decide (t.kids.length = kidsN t.kind) && (decide (t.index = 0 ∨ t.kind = 0 ∨ t.kind = 12) && (decide (t.name = ⟨#[]⟩ ∨ t.kind = 3) && decide (if t.kind = 2 then t.levels.length = 1 else t.levels.length = 0 ∨ t.kind = 3)))) := by
      rw [Bool.eq_iff_iff]
      simp [formB, formP, hk.1, hk.2]
    rw [hf]
    simp only [e]
    simp +contextual [piece, sel, sub, Tryz.f122, t1, t3, hb, hn, h0, h1, condK_if, useL, kidsN, el, el1, ek0, ek1, ek2, ek3]
    try (by_cases c1 : t.index = 0 <;> by_cases c2 : t.name = ⟨#[]⟩ <;> simp [c1, c2, Bool.and_comm])
theorem fits122 : FnC TT Tryz.prog 122 (fun _ => True) (fun t => [tv t]) (fun t => .bool (formB t)) := by
  obtain ⟨C, hC, hH⟩ : ∃ C, ConS TT Tryz.prog C ∧ Has C 120 (fun _ : Unit => True) (fun _ => []) (fun _ => usesV) :=
    ⟨_, addC_sound noC_sound uses120, Has.add fun x y e => rfl⟩
  refine fun t _ => fnX_ends tok C hC (.cons (tv_pure t) .nil) (.ground rfl) 1 TT.f122 f122_split rfl ?_
  have hev := fun n m => hH.ev (T := TT) n (x := ()) trivial m
  refine ends_seqC (f122_p0.mono (fun _ _ q => q) (fun _ _ q => q.elim) (fun _ _ _ q => q)) fun tm h q0 => ends_seqC ((f122_p1 q0).mono (fun _ _ q => q) (fun _ _ q => ?_) (fun _ _ _ q => q)) fun tm h q1 =>
    ends_seqC ((f122_p2 q1 (hev _)).mono (fun _ _ q => q) (fun _ _ q => q.elim) (fun _ _ _ q => q)) fun tm h q2 => (f122_p3 q2).mono (fun _ _ q => q.elim) (fun _ _ q => q) (fun _ _ _ q => q)
  show _ = some (Value.bool (formB t))
  rw [q.1, formB_false fun hf => q.2 hf.1]
end Go.Proofs.YtkdfgoimgcegfaaGreatDoor
