/- Layer 35: names of level parameters, as an argument: a slice of which it is known whether it is nil. -/
import Derived.Test.YtkdfgoimgcegfaaGreatDoorE35d
set_option linter.unusedSectionVars false
set_option linter.unusedSimpArgs false
set_option linter.unusedVariables false
namespace Go.Am.Eu
open Go Go.Am
structure SL where
  l : List ByteArray
  isNil : Bool
def capsOf (x : SL) : List Value := match x.l with | [] => [.bool x.isNil] | _ :: _ => []
def sV (x : SL) : Value := dsl (x.l.map Value.string) 0 x.l.length (capsOf x)
theorem sV_inj {x y : SL} (h : sV x = sV y) : x.l = y.l := by
  simp [sV] at h; exact map_inj (fun _ _ h => by injection h) h.2.1
theorem sV_pure (x : SL) : PureV (sV x) := .data _ _ _ _ (map_pure (fun _ => .ground rfl) x.l)
end Go.Am.Eu
namespace Go.Proofs.YtkdfgoimgcegfaaGreatDoor
open Go Go.Am Go.Proofs Go.Am.Sym Go.Am.Eu
set_option maxRecDepth 10000
theorem TT.f5 : TT.func 5 = some Tryz.f5 := by kernel_rfl
theorem TT.f6 : TT.func 6 = some Tryz.f6 := by kernel_rfl
theorem TT.f15 : TT.func 15 = some Tryz.f15 := by kernel_rfl
theorem TT.f23 : TT.func 23 = some Tryz.f23 := by kernel_rfl
@[simp] theorem len_sl (h : H) (e : TypeId) (x : SL) : lenBy h (some (.slice e)) (sV x) = .val (.int .i64 x.l.length) h := rfl
@[simp] theorem idx_sl {h : H} {x : SL} {k : IntKind} {i : Nat} (hi : i < x.l.length) : indexAddrOf TT h (some (.slice 9)) (some (sV x)) (some (.int k (i : Int))) = .val (dptr (.string x.l[i]) 0) h :=
  indexAddr_data (e := .string x.l[i]) s9 hi (by simp [hi]) rfl
theorem long6 : FnC TT Tryz.prog 6 (fun _ => True) (fun s => [.string s]) (fun s => .bool (decide (80 < s.size))) := by
  intro s _
  have e : (80 < (s.size : Int)) = (80 < s.size) := by apply propext; omega
  refine fnX_ends (v := .bool (decide (80 < s.size))) tok noC noC_sound (.cons (.ground rfl) .nil) (.ground rfl) 1 TT.f6 rfl rfl ?_
  simp [Tryz.f6, e]
abbrev f6V : Value := .func (.func 6) #[] #[]
noncomputable def f15B : Code := piece Tryz.f15 [true,false,true,false,false]
theorem f15_split : Tryz.f15.body = some (.seq (piece Tryz.f15 [false]) (.seq (.seq (piece Tryz.f15 [true,false,false]) (.block 0 (.loop f15B))) (piece Tryz.f15 [true,true]))) := rfl
structure IsSt (x : SL) (i : Nat) (tm : Tr Value) : Prop where
  t0 : tm.get 0 = some (sV x)
  t1 : tm.get 1 = some f6V
  t7 : tm.get 7 = some (i64 (x.l.length : Nat))
  t8 : tm.get 8 = some (i64 i)
section
variable {ev : Task → Ans} {x : SL} {i : Nat} {tm : Tr Value} {h : H}
theorem f15_iter (st : IsSt x i tm) (hi : i < x.l.length) (hw1 : i + 1 ≤ big) (hev : ∀ s h, ev (call0 6 [.string s] h) = .ret (.bool (decide (80 < s.size))) h none) :
    EndsAs (fun tm' h' => h' = h ∧ IsSt x (i + 1) tm') (fun tm' _ => ∃ k, tm'.get 4 = some (i64 k)) (fun _ _ _ => False)
      (runCode TT ev ⟨15, none⟩ f15B ⟨tm, [], h, none⟩) := by
  obtain ⟨t0, t1, t7, t8⟩ := st
  have e2 := wrapN hw1
  simp at e2
  by_cases c : 80 < x.l[i].size
  · simp [f15B, piece, sel, sub, Tryz.f15, t0, t1, t7, t8, hi, e2, hev, c]
  · simp [f15B, piece, sel, sub, Tryz.f15, t0, t1, t7, t8, hi, e2, hev, c]
    exact ⟨by simp [t0], by simp [t1], by simp [t7], by simp⟩
theorem f15_end (st : IsSt x i tm) (hi : x.l.length ≤ i) :
    EndsAs (fun _ _ => False) (fun _ _ => False) (fun j _ _ => j = 0) (runCode TT ev ⟨15, none⟩ f15B ⟨tm, [], h, none⟩) := by
  obtain ⟨t0, t1, t7, t8⟩ := st
  have hi' : ¬ i < x.l.length := by omega
  simp [f15B, piece, sel, sub, Tryz.f15, t0, t1, t7, t8, hi']
end
theorem index15 : ∃ f : SL → Int, FnC TT Tryz.prog 15 (fun x => x.l.length < big) (fun x => [sV x, f6V]) (fun x => i64 (f x)) := by
  obtain ⟨C, hC, hH⟩ : ∃ C, ConS TT Tryz.prog C ∧ Has C 6 (fun _ : ByteArray => True) (fun s => [.string s]) (fun s => .bool (decide (80 < s.size))) :=
    ⟨_, addC_sound noC_sound long6, Has.add fun x y e => by simp at e; rw [e]⟩
  have hev := fun n s m => hH.ev (T := TT) n (x := s) trivial m
  refine fnE i64 fun x hx => fnE_ends tok C hC (.cons (sV_pure x) (.cons (.func _ .nil .nil) .nil)) (fun _ => .ground rfl) (x.l.length + 1) TT.f15 f15_split rfl ?_
  have hx : x.l.length < big := hx
  have p0 : EndsAs (fun tm h => tm.get 0 = some (sV x) ∧ tm.get 1 = some f6V) (fun _ _ => False) (fun _ _ _ => False) (runCode TT (evK TT C (x.l.length + 1 + 1)) ⟨15, none⟩ (piece Tryz.f15 [false]) ⟨initT [sV x, f6V] 0 .nil, [], H.empty, none⟩) := by
    simp [piece, sel, sub, Tryz.f15]
  have p1 : ∀ tm h, (tm.get 0 = some (sV x) ∧ tm.get 1 = some f6V) → EndsAs (fun tm h => IsSt x 0 tm) (fun _ _ => False) (fun _ _ _ => False) (runCode TT (evK TT C (x.l.length + 1 + 1)) ⟨15, none⟩ (piece Tryz.f15 [true,false,false]) ⟨tm, [], h, none⟩) := by
    rintro tm h ⟨t0, t1⟩
    simp [piece, sel, sub, Tryz.f15, t0, t1]
    exact ⟨by simp [t0], by simp [t1], by simp, by simp⟩
  refine ends_seqC (p0.mono (fun _ _ q => q) (fun _ _ q => q.elim) (fun _ _ _ q => q)) fun tm h q => ends_seqC (N' := fun _ _ => True) (ends_seqC ((p1 tm h q).mono (fun _ _ q => q) (fun _ _ q => q.elim) (fun _ _ _ q => q)) fun tm h st => ?_) fun tm h q => ?_
  · refine ends_loop 0 (fun j tm h => ∃ i, j = x.l.length - i ∧ i ≤ x.l.length ∧ IsSt x i tm) x.l.length ⟨0, rfl, by omega, st⟩ (by omega) ?_
    rintro j tm h m ⟨i, rfl, hi, st⟩ -
    by_cases hlt : i < x.l.length
    · exact (f15_iter st hlt (by omega) (hev m)).mono (fun tm' h' q => ⟨_, by omega, i + 1, rfl, hlt, q.2⟩) (fun tm' h' q => q) (fun _ _ _ q => q.elim)
    · exact (f15_end st (by omega)).mono (fun _ _ q => q.elim) (fun _ _ q => q.elim) (fun _ _ _ q => ⟨q, trivial⟩)
  · simp [piece, sel, sub, Tryz.f15]
theorem contains5 : ∃ f : SL → Bool, FnC TT Tryz.prog 5 (fun x => x.l.length < big) (fun x => [sV x, f6V]) (fun x => .bool (f x)) := by
  obtain ⟨f, hf⟩ := index15
  classical
  refine fnE Value.bool fun x hx => ?_
  have hev : ∃ C, ConS TT Tryz.prog C ∧ ∃ k, ∀ n m, evK TT C n (call0 15 [sV x, f6V] m) = .ret (i64 k) m none := by
    refine ⟨addC 15 (fnC (fun _ : Unit => True) (fun _ => [sV x, f6V]) (fun _ => i64 (f x))) noC, addC_sound noC_sound fun _ _ h => hf x hx h, f x, fun n m => ?_⟩
    exact evK_con n (by rw [addC_eq]; exact fnC_enc (fun _ _ _ => rfl) (x := ()) trivial m)
  obtain ⟨C, hC, k, hk⟩ := hev
  refine fnE_ends tok C hC (.cons (sV_pure x) (.cons (.func _ .nil .nil) .nil)) (fun _ => .ground rfl) 1 TT.f5 rfl rfl ?_
  simp [Tryz.f5, hk]
  omega
/-! slices.Clone -/
@[simp] theorem nil_sl (h : H) (x y : Operand) (s : SL) : binOf TT h .eql 22 x y (some (sV s)) (some (.slice none 0 0)) = .val (.bool (s.l.isEmpty && s.isNil)) h := by
  obtain ⟨l, n⟩ := s
  cases l with
  | nil => kernel_rfl
  | cons a l => kernel_rfl
theorem info9 : (TT.info.get 9).map (fun i => (i.size, Nat.ble i.bytes 65536)) = some (1, true) := by kernel_rfl
theorem zeroN9 : isSomeL (zeroN TT 9) = true := by kernel_rfl
@[simp] theorem build22 (h : H) : buildSliceOf TT h 0 (some (.slice 9)) (some []) = .val (.slice (some ⟨h.next, 0, none⟩) 0 0) (h.new (.cells [] 9 false)) := by kernel_rfl
theorem appL_eq' (l r : List Value) : appL l r = l ++ r := by
  induction l with
  | nil => rfl
  | cons x l ih => show x :: appL l r = _; rw [ih]; rfl
theorem flat_strs (l : List ByteArray) : (l.map Value.string).flatMap cellsL = l.map Value.string := by
  induction l with
  | nil => rfl
  | cons a l ih => simp only [List.map_cons, List.flatMap_cons, ih]; rfl
theorem one_strs : ∀ l : List ByteArray, oneCells (l.map Value.string) = true
  | [] => rfl
  | a :: l => by rw [List.map_cons]; exact one_strs l
theorem first_sl (h : H) (x : SL) : firstCells h x.l.length 1 (sV x) = some (x.l.map Value.string) := by
  show some ((((x.l.map Value.string).drop 0).take x.l.length).flatMap cellsL) = _
  rw [List.drop_zero, List.take_of_length_le (by simp), flat_strs]
theorem append_sl {h : H} {B : Nat} {x : SL} {base : Option Addr} (hbase : base = none ∨ base = some ⟨B, 0, none⟩ ∧ h.get B = some (.cells [] 9 false)) (hn : x.l.length ≤ 1073741824) :
    ∃ v h', appendOf TT h (sV x) (some (.slice 9)) (some (.slice 9)) (.slice base 0 0) (some x.l.length) = .val v h' ∧ DatV h'.get v (strsV x.l) := by
  have hi := info9
  cases hT : TT.info.get 9 with
  | none => rw [hT] at hi; cases hi
  | some i =>
    rw [hT] at hi
    simp at hi
    show ∃ v h', appendSz TT h 9 (.slice base 0 0) (sV x) base 0 0 x.l.length (TT.info.get 9) = _ ∧ _
    rw [hT]
    unfold appendSz
    dsimp only
    have h2 : Nat.ble i.bytes 65536 = true := Nat.ble_eq_true_of_le hi.2
    have h3 : Nat.ble (Nat.add 0 x.l.length) 1073741824 = true := Nat.ble_eq_true_of_le (by rw [show Nat.add 0 x.l.length = x.l.length from Nat.zero_add _]; exact hn)
    have h4 : firstCells h 0 1 (.slice base 0 0) = some [] := by
      rcases hbase with rfl | ⟨rfl, hg⟩
      · rfl
      · show rowCells 0 (Nat.mul 0 1) (blockCells (h.get B)) = _
        rw [hg]; rfl
    have hlen : Nat.beq (lenL (x.l.map Value.string)) (Nat.mul x.l.length 1) = true := by
      rw [lenL_eq]; exact nbeq_eq (by simp [Nat.mul])
    rw [hi.1, first_sl, zeroN9, h2, h3, h4]
    show ∃ v h', cond (cond (Nat.beq (lenL (x.l.map Value.string)) (Nat.mul x.l.length 1)) (cond (Nat.beq (lenL []) (Nat.mul 0 1)) (oneCells (x.l.map Value.string)) false) false) (appendBase TT (touchS (touchS h (.slice base 0 0)) (sV x)) 9 1 0 0 x.l.length [] (x.l.map Value.string) base) .fail = _ ∧ _
    rw [hlen, one_strs]
    show ∃ v h', appendBase TT (touchS (touchS h (.slice base 0 0)) (sV x)) 9 1 0 0 x.l.length [] (x.l.map Value.string) base = _ ∧ _
    have hfin : ∀ h0 : H, DatV (h0.new (.cells (x.l.map Value.string) 9 true)).get (.slice (some ⟨h0.next, 0, none⟩) x.l.length x.l.length) (strsV x.l) := fun h0 => by
      unfold strsV
      refine DatV.slice (pre := []) (post := []) (es := x.l.map Value.string) (ds := x.l.map Value.string) (e := 9) (gr := true) (sz := 1) (by simp [flat_strs]) rfl (fun y hy => ?_) (by simp) (Nat.le_refl _) (DatL.pure (map_pure (fun _ => .ground rfl) _))
      obtain ⟨s, _, rfl⟩ := List.mem_map.1 hy; rfl
    rcases hbase with rfl | ⟨rfl, hg⟩
    · obtain ⟨l, nl⟩ := x
      cases l with
      | nil => exact ⟨_, _, rfl, .slice0⟩
      | cons a l => exact ⟨_, _, rfl, hfin _⟩
    · show ∃ v h', appendRow TT (h.touch B) B 0 9 1 0 0 x.l.length [] (x.l.map Value.string) ((h.touch B).get B) = _ ∧ _
      rw [touch_get, hg]
      obtain ⟨l, nl⟩ := x
      cases l with
      | nil =>
        refine ⟨_, _, rfl, ?_⟩
        exact DatV.slice (pre := []) (post := []) (es := []) (ds := []) (e := 9) (gr := false) (sz := 1) (by rw [touch_get]; exact hg) rfl (by simp) rfl (Nat.le_refl _) .nil
      | cons a l =>
        refine ⟨_, _, rfl, ?_⟩
        have := hfin (h.touch B)
        simpa [appL_eq'] using this
theorem clone23 : FnC TT Tryz.prog 23 (fun x => x.l.length ≤ 1073741824) (fun x => [sV x]) (fun x => strsV x.l) := by
  intro x hx h
  have key : ∃ v h1, callFn TT (evK TT noC 1) 23 [sV x] H.empty none (TT.func 23) = .ret v h1 none ∧ DatV h1.get v (strsV x.l) := by
    by_cases hc : (x.l.isEmpty && x.isNil) = true
    · refine ⟨.slice none 0 0, H.empty, ?_, ?_⟩
      · rw [fn_run (vs := [.slice none 0 0]) (h2 := H.empty) (ab := none) TT.f23 rfl rfl (by simp only [Bool.and_eq_true] at hc; simp [Tryz.f23, hc])]
        rfl
      · have : x.l = [] := by simp at hc; exact hc.1
        rw [this]; exact .slice0
    · obtain ⟨v, h1, e, hd⟩ := append_sl (h := H.empty.new (.cells [] 9 false)) (B := 0) (x := x) (base := some ⟨0, 0, none⟩) (.inr ⟨rfl, by simp⟩) hx
      refine ⟨v, h1, ?_, hd⟩
      have hl : lenOf (sV x) = some x.l.length := rfl
      have hc' : (x.l.isEmpty && x.isNil) = false := by simpa using hc
      rw [fn_run (vs := [v]) (h2 := h1) (ab := none) TT.f23 rfl rfl (by
        simp only [Tryz.f23]
        simp [hc', hl, e, -Bool.and_eq_false_imp])]
      rfl
  obtain ⟨v, h1, e, hd⟩ := key
  exact fnC_of tok noC noC_sound (.cons (sV_pure x) .nil) 1 e hd h
end Go.Proofs.YtkdfgoimgcegfaaGreatDoor
