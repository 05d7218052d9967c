/- Layer 35: goals asked of a slice that is known, laid into a made one: Grow, Concat. -/
import Derived.Test.YtkdfgoimgcegfaaGreatDoorG35s
set_option linter.unusedSectionVars false
set_option linter.unusedSimpArgs false
set_option linter.unusedVariables false
namespace Go.Am
open Go
theorem touch_idem (h : H) (b : Nat) : (h.touch b).touch b = h.touch b := by
  rw [touch_eq h]
  by_cases c : h.base ≤ b
  · rw [if_pos c, touch_eq, if_pos c]
  · rw [if_neg c, touch_eq, if_neg c]
    show H.mk _ _ _ _ _ = H.mk _ _ _ _ _
    congr 1
    show (h.rd ||| bit b) ||| bit b = h.rd ||| bit b
    rw [Nat.or_assoc, Nat.or_self]
theorem touch_own {h : H} {b : Nat} (c : h.base ≤ b) : h.touch b = h := by rw [touch_eq, if_pos c]
theorem put_rd {h : H} {b : Nat} (c : h.base ≤ b) (o : AObj) : (h.put b o).rd = h.rd ∧ (h.put b o).wr = h.wr := by
  rw [H.put, putM_eq, mark_eq, if_pos c]; exact ⟨rfl, rfl⟩
theorem new_rd (h : H) (o : AObj) : (h.new o).rd = h.rd ∧ (h.new o).wr = h.wr := by rw [new_eq]; exact ⟨rfl, rfl⟩
end Go.Am
namespace Go.Proofs.YtkdfgoimgcegfaaGreatDoor
open Go Go.Am Go.Proofs Go.Am.Sym Go.Am.Eu
set_option maxRecDepth 10000
theorem TT.f32 : TT.func 32 = some Tryz.f32 := by kernel_rfl
theorem TT.f83 : TT.func 83 = some Tryz.f83 := by kernel_rfl
@[simp] theorem TT.u146 : TT.under 146 = some (.slice 36) := by kernel_rfl
/-- A part of the goals, and what it holds. -/
def gpart (l : List Goal) (p : Nat × Nat) : Value := dsl (l.map goalV) p.1 p.2 []
def gsub (l : List Goal) (p : Nat × Nat) : List Goal := (l.drop p.1).take p.2
theorem gsub_len {l : List Goal} {p : Nat × Nat} (h : p.1 + p.2 ≤ l.length) : (gsub l p).length = p.2 := by
  unfold gsub; rw [List.length_take, List.length_drop]; omega
theorem gpart_slice {h : H} {l : List Goal} {a b : Nat} (hab : a ≤ b) (hb : b ≤ l.length) (hl : 0 < l.length) :
    sliceData h (l.map goalV) 0 l.length [] none (some 8) (some a) (some b) (some l.length) = .val (gpart l (a, b - a)) h := by
  unfold sliceData
  dsimp only
  rw [Nat.ble_eq_true_of_le (Nat.le_refl l.length), Nat.ble_eq_true_of_le hb, Nat.ble_eq_true_of_le hab]
  have e : elemIs 8 (l.map goalV)[0]? = true := by
    cases l with
    | nil => simp at hl
    | cons g l => rfl
  rw [e]
  have e2 : (bif Nat.beq a 0 then true else true) = true := by cases Nat.beq a 0 <;> rfl
  rw [cond_true, cond_true, cond_true, e2]
  show Res.val (dsl (l.map goalV) (0 + a) (b - a) []) h = _
  rw [Nat.zero_add]; rfl
theorem sl36_mid {h : H} {l : List Goal} {k : Nat} (hk : k < l.length) : sliceOf TT h 36 (some (goalsV l)) (some (some (i64 k))) (some (some (i64 ((k : Int) + 1)))) (some none) = .val (gpart l (k, 1)) h := by
  have e : ((k : Int) + 1) = ((k + 1 : Nat) : Int) := by omega
  rw [e]
  show sliceBy TT h (some (i64 k)) (some (i64 (k + 1 : Nat))) none (TT.under 36) (goalsV l) = _
  rw [TT.u36]
  show sliceData h (l.map goalV) 0 l.length [] none (Am.size TT 58) (some k) (some (k + 1)) (some l.length) = _
  rw [s58, gpart_slice (by omega) (by omega) (by omega)]
  congr 3; omega
theorem sl36_low {h : H} {l : List Goal} {k : Nat} (hk : k < l.length) : sliceOf TT h 36 (some (goalsV l)) (some none) (some (some (i64 k))) (some none) = .val (gpart l (0, k)) h := by
  show sliceBy TT h none (some (i64 k)) none (TT.under 36) (goalsV l) = _
  rw [TT.u36]
  show sliceData h (l.map goalV) 0 l.length [] none (Am.size TT 58) (some 0) (some k) (some l.length) = _
  rw [s58, gpart_slice (by omega) (by omega) (by omega)]; rfl
theorem sl36_high {h : H} {l : List Goal} {k : Nat} (hk : k < l.length) : sliceOf TT h 36 (some (goalsV l)) (some (some (i64 ((k : Int) + 1)))) (some none) (some none) = .val (gpart l (k + 1, l.length - (k + 1))) h := by
  have e : ((k : Int) + 1) = ((k + 1 : Nat) : Int) := by omega
  rw [e]
  show sliceBy TT h (some (i64 (k + 1 : Nat))) none none (TT.under 36) (goalsV l) = _
  rw [TT.u36]
  show sliceData h (l.map goalV) 0 l.length [] none (Am.size TT 58) (some (k + 1)) (some l.length) (some l.length) = _
  rw [s58, gpart_slice (by omega) (by omega) (by omega)]
/-! Zeros. -/
noncomputable def z58n : List Value := (zeroN TT 58).getD []
theorem zeroN58' : zeroN TT 58 = some z58n := by
  unfold z58n
  have := zeroN58
  cases h : zeroN TT 58 with
  | none => rw [h] at this; cases this
  | some z => rfl
noncomputable def zgc (n : Nat) : List Value := (Builtin.zeroCells ⟨z58n⟩ n).toList
theorem z58n_len : z58n.length = 8 := by kernel_rfl
theorem zgc_len (n : Nat) : (zgc n).length = n * 8 := by
  unfold zgc
  simp [Builtin.zeroCells, z58n_len]
theorem append_zeros {h : H} {n : Nat} (hn : n + 1 ≤ 1073741824) : appendOf TT h (i64 (n + 1 : Nat)) (some (.slice 58)) (some (.int .i64)) sn none = .val (.slice (some ⟨h.next, 0, none⟩) (n + 1) (n + 1)) (h.new (.cells (zgc (n + 1)) 58 true)) := by
  have hi := info58
  cases hT : TT.info.get 58 with
  | none => rw [hT] at hi; cases hi
  | some i =>
    rw [hT] at hi
    simp at hi
    show appendZeros h 58 (i64 (n + 1 : Nat)) (TT.info.get 58) (zeroN TT 58) = _
    rw [hT, zeroN58']
    show (bif (bif Nat.beq i.size 0 then false else (bif Nat.ble i.bytes 65536 then Nat.ble (n + 1) 1073741824 else false)) then appendNew h 58 (n + 1) (zgc (n + 1)) else Res.fail) = _
    rw [hi.1, Nat.ble_eq_true_of_le hi.2, Nat.ble_eq_true_of_le hn]
    rfl
end Go.Proofs.YtkdfgoimgcegfaaGreatDoor
/- Layer 35: slices.Grow of nothing; goals appended in their place. -/
namespace Go.Proofs.YtkdfgoimgcegfaaGreatDoor
open Go Go.Am Go.Proofs Go.Am.Sym Go.Am.Eu
set_option maxRecDepth 10000
@[simp] theorem b_cap0 (h : H) (ts : Array TypeId) (ty : TypeId) (e : TypeId) (hu : underO TT ts.toList[0]? = some (.slice e)) : builtinOf TT h ts ty [sn] .cap = .of (.val (i64 0) h) := by
  show Out.of (capBy h (underO TT ts.toList[0]?) sn) = _
  rw [hu]; rfl
theorem TT.u3 : TT.under 3 = some (.int .i64) := by kernel_rfl
@[simp] theorem bounds_none (v : Option Value) : bounds none v = some none := rfl
@[simp] theorem bounds_some (x : Operand) (v : Value) : bounds (some x) (some v) = some (some v) := rfl
@[simp] theorem opvO_none (tm : Tr Value) : opvO tm none = none := rfl
@[simp] theorem opvO_some (tm : Tr Value) (x : Operand) : opvO tm (some x) = opv tm x := rfl
theorem sl36_nil (h : H) : sliceOf TT h 36 (some sn) (some none) (some (some (i64 0))) (some none) = .val sn h := by
  show sliceBy TT h none (some (i64 0)) none (TT.under 36) sn = _
  rw [TT.u36]
  show sliceNil h (Am.size TT 58) (some 0) (some 0) (some 0) = _
  rw [s58]; rfl
theorem sl36_own {h : H} {b n : Nat} {c : List Value} (hb : h.base ≤ b) (hg : h.get b = some (.cells c 58 true)) : sliceOf TT h 36 (some (.slice (some ⟨b, 0, none⟩) n n)) (some none) (some (some (i64 0))) (some none) = .val (.slice (some ⟨b, 0, none⟩) 0 n) h := by
  show sliceBy TT h none (some (i64 0)) none (TT.under 36) (.slice (some ⟨b, 0, none⟩) n n) = _
  rw [TT.u36]
  show sliceIn TT (h.touch b) b 0 n n 58 none (some (i64 0)) none (h.get b) = _
  rw [hg, touch_own hb]
  show cond (sameSize (Am.size TT 58) (Am.size TT 58)) (sliceGrow h b 0 n (Am.size TT 58) (some 0) (some 0) (some n)) .fail = _
  rw [s58]
  show cond (Nat.beq 8 8) (cond (cond (Nat.ble n n) true false) (Res.val (.slice (some ⟨b, 0, none⟩) 0 n) h) .fail) .fail = _
  rw [Nat.ble_eq_true_of_le (Nat.le_refl n)]; rfl
theorem run83 {C : Con} (hC : C 83 = fun _ _ => none) {n m : Nat} {h : H} (hb : h.base ≤ h.next) (hn : n + 1 ≤ 1073741824) :
    evK TT C (m + 2) (call0 83 [sn, i64 (n + 1 : Nat)] h) = .ret (.slice (some ⟨h.next, 0, none⟩) 0 (n + 1)) (h.new (.cells (zgc (n + 1)) 58 true)) none := by
  have a := append_zeros (h := h) hn
  have s := sl36_own (h := h.new (.cells (zgc (n + 1)) 58 true)) (b := h.next) (n := n + 1) (c := zgc (n + 1)) (by simp [hb]) (by simp)
  have w : IntKind.i64.wrap ((n : Int) + 1) = (n : Int) + 1 := by
    have := wrapN (n := n + 1) (by unfold big; omega)
    simpa using this
  have n1 : ¬ ((n : Int) + 1 < 0) := by omega
  have n2 : (0 : Int) < (n : Int) + 1 := by omega
  have z : IntKind.i64.wrap 0 = 0 := by decide
  simp at a
  rw [evK_call _ (by rw [hC]), fn_run (vs := [.slice (some ⟨h.next, 0, none⟩) 0 (n + 1)]) (h2 := h.new (.cells (zgc (n + 1)) 58 true)) (ab := none) TT.f83 rfl rfl (by
    simp [Tryz.f83, condK_if, w, n1, n2, z, sl36_nil, a, s, lenOf, TT.u3])]
  rfl
end Go.Proofs.YtkdfgoimgcegfaaGreatDoor
/- Layer 35: goals appended in their place. -/
namespace Go.Proofs.YtkdfgoimgcegfaaGreatDoor
open Go Go.Am Go.Proofs Go.Am.Sym Go.Am.Eu
set_option maxRecDepth 10000
theorem first_part {h : H} {l : List Goal} {p : Nat × Nat} : firstCells h p.2 8 (gpart l p) = some (gcs (gsub l p)) := by
  show some ((((l.map goalV).drop p.1).take p.2).flatMap cellsL) = _
  rw [← List.map_drop, ← List.map_take]; rfl
theorem one_goals : ∀ l : List Goal, oneCells (gcs l) = true
  | [] => rfl
  | g :: l => by
    rw [gcs_cons]
    show oneCells (gcs l) = true
    exact one_goals l
/-- A made row that takes goals. -/
structure Row (h : H) (b n : Nat) (L : List Goal) : Prop where
  own : h.base ≤ b
  cells : ∃ Z, h.get b = some (.cells (gcs L ++ Z) 58 true) ∧ L.length + Z.length / 8 = n ∧ Z.length = (n - L.length) * 8
structure Quiet (h h' : H) (b : Nat) : Prop where
  base : h'.base = h.base
  next : h'.next = h.next
  rd : h'.rd = h.rd
  wr : h'.wr = h.wr
  other : ∀ j, j ≠ b → h'.get j = h.get j
theorem append_part {h : H} {b n : Nat} {L l : List Goal} {p : Nat × Nat} (R : Row h b n L) (hp : p.1 + p.2 ≤ l.length) (hn : L.length + p.2 ≤ n) (hn2 : n ≤ 1073741824) :
    ∃ h', appendOf TT h (gpart l p) (some (.slice 58)) (some (.slice 58)) (.slice (some ⟨b, 0, none⟩) L.length n) (some p.2) = .val (.slice (some ⟨b, 0, none⟩) (L.length + p.2) n) h' ∧ Row h' b n (L ++ gsub l p) ∧ Quiet h h' b := by
  obtain ⟨own, Z, hg, hd, hZ⟩ := R
  have hi := info58
  have hgl := gsub_len hp
  cases hT : TT.info.get 58 with
  | none => rw [hT] at hi; cases hi
  | some i =>
    rw [hT] at hi
    simp at hi
    have h2 : Nat.ble i.bytes 65536 = true := Nat.ble_eq_true_of_le hi.2
    have h3 : Nat.ble (Nat.add L.length p.2) 1073741824 = true := Nat.ble_eq_true_of_le (Nat.le_trans hn hn2)
    have hf : firstCells h L.length 8 (.slice (some ⟨b, 0, none⟩) L.length n) = some (gcs L) := by
      show rowCells 0 (Nat.mul L.length 8) (blockCells (h.get b)) = _
      rw [hg]
      show cut (gcs L ++ Z) 0 (L.length * 8) = _
      rw [cut_some (by rw [List.length_append, gcs_len]; omega), List.drop_zero, ← gcs_len L, List.take_left]
    have key : appendOf TT h (gpart l p) (some (.slice 58)) (some (.slice 58)) (.slice (some ⟨b, 0, none⟩) L.length n) (some p.2) = onB (appendIn h b 0 (L.length + p.2) n 58 true (splice (Nat.add 0 (Nat.mul L.length 8)) (gcs (gsub l p)) (gcs L ++ Z))) (.val (.slice (some ⟨b, 0, none⟩) L.length n) h) (Nat.beq p.2 0) := by
      show appendSz TT h 58 (.slice (some ⟨b, 0, none⟩) L.length n) (gpart l p) (some ⟨b, 0, none⟩) L.length n p.2 (TT.info.get 58) = _
      rw [hT]
      unfold appendSz
      dsimp only
      rw [hi.1, first_part, zeroN58, h2, h3, hf]
      show cond (cond true (cond (Nat.beq (lenL (gcs (gsub l p))) (Nat.mul p.2 8)) (cond (Nat.beq (lenL (gcs L)) (Nat.mul L.length 8)) (oneCells (gcs (gsub l p))) false) false) false) (appendRow TT (h.touch b) b 0 58 8 L.length n p.2 (gcs L) (gcs (gsub l p)) ((h.touch b).get b)) .fail = _
      rw [lenL_eq, lenL_eq, nbeq_eq (show (gcs L).length = Nat.mul L.length 8 from gcs_len L), nbeq_eq (show (gcs (gsub l p)).length = Nat.mul p.2 8 by rw [gcs_len, hgl]; rfl), one_goals, touch_own own, hg]
      show appendRow TT h b 0 58 8 L.length n p.2 (gcs L) (gcs (gsub l p)) (some (.cells (gcs L ++ Z) 58 true)) = _
      unfold appendRow
      show onB _ _ (Nat.ble (Nat.add L.length p.2) n) = _
      rw [Nat.ble_eq_true_of_le (show Nat.add L.length p.2 ≤ n from hn)]; rfl
    rw [key]
    by_cases c : p.2 = 0
    · have e : gsub l p = [] := List.eq_nil_of_length_eq_zero (by omega)
      refine ⟨h, ?_, ?_, rfl, rfl, rfl, rfl, fun _ _ => rfl⟩
      · rw [nbeq_eq c, c]; rfl
      · rw [e, List.append_nil]; exact ⟨own, Z, hg, hd, hZ⟩
    · rw [nbeq_ne c]
      have hs : splice (Nat.add 0 (Nat.mul L.length 8)) (gcs (gsub l p)) (gcs L ++ Z) = some (gcs (L ++ gsub l p) ++ Z.drop (p.2 * 8)) := by
        have e : Nat.add 0 (Nat.mul L.length 8) = (gcs L).length := by rw [gcs_len]; show 0 + L.length * 8 = _; omega
        have e2 : (gcs (gsub l p)).length = p.2 * 8 := by rw [gcs_len, hgl]
        rw [e, splice_some _ _ _ (by rw [List.length_append, e2, hZ]; have : p.2 * 8 ≤ (n - L.length) * 8 := Nat.mul_le_mul_right 8 (by omega); omega), List.take_left, List.drop_append, gcs_app, e2]
        rw [List.drop_of_length_le (by omega)]
        have e3 : (gcs L).length + p.2 * 8 - (gcs L).length = p.2 * 8 := by omega
        rw [e3, List.nil_append, List.append_assoc]
      refine ⟨h.put b (.cells (gcs (L ++ gsub l p) ++ Z.drop (p.2 * 8)) 58 true), by rw [hs]; rfl, ⟨by rw [h_put_base]; exact own, _, by simp; rfl, ?_, ?_⟩, h_put_base .., h_put_next .., (put_rd own _).1, (put_rd own _).2, fun j hj => by simp [hj]⟩
      · rw [List.length_append, hgl, List.length_drop]; omega
      · rw [List.length_append, hgl, List.length_drop, hZ]; omega
theorem row_start {h : H} (n : Nat) (hb : h.base ≤ h.next) : Row (h.new (.cells (zgc n) 58 true)) h.next n [] :=
  ⟨by simp [hb], zgc n, by simp [gcs], by rw [zgc_len]; simp, by rw [zgc_len]; simp⟩
theorem Row.full {h : H} {b n : Nat} {L : List Goal} (R : Row h b n L) (hn : n = L.length) : h.get b = some (.cells (gcs L) 58 true) := by
  obtain ⟨own, Z, hg, hd, hZ⟩ := R
  have : Z = [] := List.eq_nil_of_length_eq_zero (by rw [hZ, hn]; simp)
  rw [hg, this, List.append_nil]
end Go.Proofs.YtkdfgoimgcegfaaGreatDoor
/- Layer 35: slices.Concat of parts of known goals. -/
namespace Go.Proofs.YtkdfgoimgcegfaaGreatDoor
open Go Go.Am Go.Proofs Go.Am.Sym Go.Am.Eu
set_option maxRecDepth 10000
@[simp] theorem ia146 {h : H} {B i m : Nat} (hi : i < m) : indexAddrOf TT h (some (.slice 36)) (some (.slice (some ⟨B, 0, none⟩) m m)) (some (.int .i64 (i : Int))) = .val (.pointer (some ⟨B, i, none⟩)) h := by
  show indexAddrBy h ⟨B, 0, none⟩ i m (Am.size TT 36) = _
  rw [s36]
  show cond (Nat.ble (Nat.succ i) m) (Res.val (.pointer (some ((⟨B, 0, none⟩ : Addr).add (i * 1)))) h) .fail = _
  rw [Nat.ble_eq_true_of_le hi, addr_add, Nat.mul_one, Nat.zero_add]; rfl
def psum (P : List (Nat × Nat)) (i : Nat) : Nat := ((P.take i).map Prod.snd).sum
theorem psum_succ {P : List (Nat × Nat)} {i : Nat} (hi : i < P.length) : psum P (i + 1) = psum P i + P[i].2 := by
  unfold psum
  rw [List.take_succ_eq_append_getElem hi, List.map_append, List.sum_append]; simp only [List.map_cons, List.map_nil, List.sum_cons, List.sum_nil, Nat.add_zero]
theorem psum_le (P : List (Nat × Nat)) : ∀ (i j : Nat), i ≤ j → j ≤ P.length → psum P i ≤ psum P j
  | i, 0, h, _ => by have : i = 0 := by omega
                     rw [this]; exact Nat.le_refl _
  | i, j + 1, h, hj => by
    by_cases c : i = j + 1
    · rw [c]; exact Nat.le_refl _
    · have := psum_le P i j (by omega) (by omega)
      rw [psum_succ (by omega)]; omega
noncomputable def f32B1 : Code := piece Tryz.f32 [true,true,false,true,false,false]
noncomputable def f32B2 : Code := piece Tryz.f32 [true,true,true,true,false,true,false,false]
theorem f32_split : Tryz.f32.body = some (.seq (piece Tryz.f32 [false]) (.seq (piece Tryz.f32 [true,false]) (.seq (.seq (piece Tryz.f32 [true,true,false,false]) (.block 0 (.loop f32B1))) (.seq (piece Tryz.f32 [true,true,true,false]) (.seq (.seq (piece Tryz.f32 [true,true,true,true,false,false]) (.block 2 (.loop f32B2))) (.seq (piece Tryz.f32 [true,true,true,true,true,false]) (piece Tryz.f32 [true,true,true,true,true,true]))))))) := rfl
abbrev prow (P : List (Nat × Nat)) (B : Nat) : Value := .slice (some ⟨B, 0, none⟩) P.length P.length
structure Cs1 (P : List (Nat × Nat)) (l : List Goal) (B : Nat) (hT : H) (i : Nat) (tm : Tr Value) (h : H) : Prop where
  mem : h.touch B = hT
  row : h.get B = some (.cells (P.map (gpart l)) 36 false)
  t0 : tm.get 0 = some (prow P B)
  t3 : tm.get 3 = some (i64 (psum P i : Nat))
  t9 : tm.get 9 = some (prow P B)
  t10 : tm.get 10 = some (i64 (P.length : Nat))
  t11 : tm.get 11 = some (i64 i)
section
variable {ev : Task → Ans} {P : List (Nat × Nat)} {l : List Goal} {B i : Nat} {hT : H} {tm : Tr Value} {h : H}
theorem f32_iter1 (st : Cs1 P l B hT i tm h) (hi : i < P.length) (hl : P.length < big) (hw : psum P (i + 1) ≤ big) :
    EndsAs (fun tm' h' => h' = hT ∧ Cs1 P l B hT (i + 1) tm' h') (fun _ _ => False) (fun _ _ _ => False) (runCode TT ev ⟨32, none⟩ f32B1 ⟨tm, [], h, none⟩) := by
  obtain ⟨hm, hr, t0, t3, t9, t10, t11⟩ := st
  have e1 := wrapN (n := i + 1) (by omega)
  have e2 := wrapN hw
  rw [psum_succ hi] at e2
  simp at e1 e2
  have hp : (P.map (gpart l))[i]? = some (gpart l P[i]) := by simp [hi]
  have hn : ¬ ((psum P i : Int) + (P[i].2 : Int) < 0) := by omega
  have hlen : ∀ h, lenBy h (some (.slice 58)) (gpart l P[i]) = .val (i64 (P[i].2 : Nat)) h := fun _ => rfl
  simp [f32B1, piece, sel, sub, Tryz.f32, t0, t3, t9, t10, t11, hi, hr, hm, p36, hp, hlen, e1, e2, hn, condK_if]
  refine ⟨by rw [← hm]; exact touch_idem .., by rw [← hm]; simp [hr], by simp [t0], by simp [psum_succ hi], by simp [t9], by simp [t10], by simp⟩
theorem f32_end1 (st : Cs1 P l B hT i tm h) (hi : P.length ≤ i) :
    EndsAs (fun _ _ => False) (fun _ _ => False) (fun j tm' h' => j = 0 ∧ h' = h ∧ Cs1 P l B hT i tm' h') (runCode TT ev ⟨32, none⟩ f32B1 ⟨tm, [], h, none⟩) := by
  obtain ⟨hm, hr, t0, t3, t9, t10, t11⟩ := st
  have hi' : ¬ i < P.length := by omega
  simp [f32B1, piece, sel, sub, Tryz.f32, t9, t10, t11, hi']
  exact ⟨hm, hr, by simp [t0], by simp [t3], by simp [t9], by simp [t10], by simp [t11]⟩
end
end Go.Proofs.YtkdfgoimgcegfaaGreatDoor
/- Layer 35: slices.Concat of parts of known goals: the run. -/
namespace Go.Am
open Go
theorem touch_quiet {h h' : H} {b : Nat} (hb : h'.base = (h.touch b).base) (hr : h'.rd = (h.touch b).rd) : h'.touch b = h' := by
  have e := touch_idem h b
  rw [touch_eq (h.touch b)] at e
  rw [touch_eq, hb]
  by_cases c : (h.touch b).base ≤ b
  · rw [if_pos c]
  · rw [if_neg c] at e ⊢
    have e2 : Nat.lor (h.touch b).rd (bit b) = (h.touch b).rd := congrArg H.rd e
    rw [hr, e2, ← hr, ← hb]
theorem touch_wr (h : H) (b : Nat) : (h.touch b).wr = h.wr := by
  rw [touch_eq]; by_cases c : h.base ≤ b
  · rw [if_pos c]
  · rw [if_neg c]
end Go.Am
namespace Go.Proofs.YtkdfgoimgcegfaaGreatDoor
open Go Go.Am Go.Proofs Go.Am.Sym Go.Am.Eu
set_option maxRecDepth 10000
structure Cs2 (P : List (Nat × Nat)) (l : List Goal) (B : Nat) (hT : H) (n i : Nat) (tm : Tr Value) (h : H) : Prop where
  base : h.base = hT.base
  next : h.next = hT.next + 1
  rd : h.rd = hT.rd
  wr : h.wr = hT.wr
  low : ∀ j, j ≠ hT.next → h.get j = hT.get j
  row : Row h hT.next n ((P.take i).flatMap (gsub l))
  t6 : tm.get 6 = some (.slice (some ⟨hT.next, 0, none⟩) (psum P i) n)
  t25 : tm.get 25 = some (prow P B)
  t26 : tm.get 26 = some (i64 (P.length : Nat))
  t27 : tm.get 27 = some (i64 i)
theorem flat_len {P : List (Nat × Nat)} {l : List Goal} (hP : ∀ p ∈ P, p.1 + p.2 ≤ l.length) : ∀ i, i ≤ P.length → ((P.take i).flatMap (gsub l)).length = psum P i
  | 0, _ => by simp [psum]
  | i + 1, h => by
    rw [List.take_succ_eq_append_getElem (by omega), List.flatMap_append, List.length_append, flat_len hP i (by omega), psum_succ (by omega)]
    simp only [List.flatMap_cons, List.flatMap_nil, List.append_nil]
    rw [gsub_len (hP _ (List.getElem_mem (by omega)))]
section
variable {ev : Task → Ans} {P : List (Nat × Nat)} {l : List Goal} {B n i : Nat} {hT : H} {tm : Tr Value} {h : H}
theorem f32_iter2 (hq : ∀ h' : H, h'.base = hT.base → h'.rd = hT.rd → h'.touch B = h') (hrow : hT.get B = some (.cells (P.map (gpart l)) 36 false)) (hB : B < hT.next) (hP : ∀ p ∈ P, p.1 + p.2 ≤ l.length) (hn : psum P P.length ≤ n) (hn2 : n ≤ 1073741824)
    (st : Cs2 P l B hT n i tm h) (hi : i < P.length) (hl : P.length < big) :
    EndsAs (fun tm' h' => Cs2 P l B hT n (i + 1) tm' h') (fun _ _ => False) (fun _ _ _ => False) (runCode TT ev ⟨32, none⟩ f32B2 ⟨tm, [], h, none⟩) := by
  obtain ⟨b1, b2, b3, b4, b5, hR, t6, t25, t26, t27⟩ := st
  have e1 := wrapN (n := i + 1) (by omega)
  simp at e1
  have hp : (P.map (gpart l))[i]? = some (gpart l P[i]) := by simp [hi]
  have hgB : h.get B = some (.cells (P.map (gpart l)) 36 false) := by rw [b5 B (by omega)]; exact hrow
  have hm := hq h b1 b3
  have hlen := flat_len hP i (by omega)
  have hs := psum_le P (i + 1) P.length (by omega) (Nat.le_refl _)
  rw [psum_succ hi] at hs
  obtain ⟨h', e, hR', q⟩ := append_part (p := P[i]) hR (hP _ (List.getElem_mem hi)) (by omega) hn2
  rw [hlen] at e
  have hl : lenOf (gpart l P[i]) = some P[i].2 := rfl
  simp [f32B2, piece, sel, sub, Tryz.f32, t6, t25, t26, t27, hi, hgB, hm, p36, hp, hl, e, e1]
  refine ⟨by rw [q.base, b1], by rw [q.next, b2], by rw [q.rd, b3], by rw [q.wr, b4], fun j hj => by rw [q.other j hj]; exact b5 j hj, ?_, by simp [psum_succ hi], by simp [t25], by simp [t26], by simp⟩
  rw [List.take_succ_eq_append_getElem hi, List.flatMap_append]
  simpa using hR'
theorem f32_end2 (st : Cs2 P l B hT n i tm h) (hi : P.length ≤ i) :
    EndsAs (fun _ _ => False) (fun _ _ => False) (fun j tm' h' => j = 0 + 2 ∧ Cs2 P l B hT n i tm' h') (runCode TT ev ⟨32, none⟩ f32B2 ⟨tm, [], h, none⟩) := by
  obtain ⟨b1, b2, b3, b4, b5, hR, t6, t25, t26, t27⟩ := st
  have hi' : ¬ i < P.length := by omega
  simp [f32B2, piece, sel, sub, Tryz.f32, t25, t26, t27, hi']
  exact ⟨b1, b2, b3, b4, b5, hR, by simp [t6], by simp [t25], by simp [t26], by simp [t27]⟩
end
theorem run32 {C : Con} (c32 : C 32 = fun _ _ => none) (c83 : C 83 = fun _ _ => none) {P : List (Nat × Nat)} {l : List Goal} {B n m : Nat} {h0 : H} (hb : h0.base ≤ h0.next) (hr : h0.get B = some (.cells (P.map (gpart l)) 36 false)) (hB : B < h0.next)
    (hP : ∀ p ∈ P, p.1 + p.2 ≤ l.length) (hp0 : 0 < P.length) (hl : P.length < 1000) (hs : psum P P.length = n + 1) (hn : n + 1 ≤ 1073741824) (hm : 1010 ≤ m) :
    ∃ h', evK TT C (m + 1) (call0 32 [prow P B] h0) = .ret (.slice (some ⟨h0.next, 0, none⟩) (n + 1) (n + 1)) h' none ∧ h'.base = h0.base ∧ h'.next = h0.next + 1 ∧ h'.rd = (h0.touch B).rd ∧ h'.wr = h0.wr ∧
      h'.get h0.next = some (.cells (gcs (P.flatMap (gsub l))) 58 true) ∧ ∀ j, j ≠ h0.next → h'.get j = h0.get j := by
  obtain ⟨m, rfl⟩ : ∃ m', m = m' + 2 := ⟨m - 2, by omega⟩
  have hbig : P.length < big := by unfold big; omega
  have e83 := run83 c83 (n := n) (m := m) (h := h0.touch B) (by simp [hb]) hn
  simp at e83
  have key : EndsAs (fun _ _ => False) (fun tm h' => tm.get 2 = some (.slice (some ⟨h0.next, 0, none⟩) (n + 1) (n + 1)) ∧ h'.base = h0.base ∧ h'.next = h0.next + 1 ∧ h'.rd = (h0.touch B).rd ∧ h'.wr = h0.wr ∧
      h'.get h0.next = some (.cells (gcs (P.flatMap (gsub l))) 58 true) ∧ ∀ j, j ≠ h0.next → h'.get j = h0.get j) (fun _ _ _ => False)
      (runCode TT (evK TT C (m + 2)) ⟨32, none⟩ (.seq (piece Tryz.f32 [false]) (.seq (piece Tryz.f32 [true,false]) (.seq (.seq (piece Tryz.f32 [true,true,false,false]) (.block 0 (.loop f32B1))) (.seq (piece Tryz.f32 [true,true,true,false]) (.seq (.seq (piece Tryz.f32 [true,true,true,true,false,false]) (.block 2 (.loop f32B2))) (.seq (piece Tryz.f32 [true,true,true,true,true,false]) (piece Tryz.f32 [true,true,true,true,true,true]))))))) ⟨initT [prow P B] 0 .nil, [], h0, none⟩) := by
    have p0 : EndsAs (fun tm h => h = h0 ∧ tm.get 0 = some (prow P B)) (fun _ _ => False) (fun _ _ _ => False) (runCode TT (evK TT C (m + 2)) ⟨32, none⟩ (piece Tryz.f32 [false]) ⟨initT [prow P B] 0 .nil, [], h0, none⟩) := by
      simp [piece, sel, sub, Tryz.f32]
    have p1 : ∀ tm h, (h = h0 ∧ tm.get 0 = some (prow P B)) → EndsAs (fun tm h => h = h0 ∧ tm.get 0 = some (prow P B) ∧ tm.get 3 = some (i64 (0 : Nat))) (fun _ _ => False) (fun _ _ _ => False) (runCode TT (evK TT C (m + 2)) ⟨32, none⟩ (piece Tryz.f32 [true,false]) ⟨tm, [], h, none⟩) := by
      rintro tm h ⟨rfl, t0⟩
      simp [piece, sel, sub, Tryz.f32, t0]
    have p2 : ∀ tm h, (h = h0 ∧ tm.get 0 = some (prow P B) ∧ tm.get 3 = some (i64 (0 : Nat))) → EndsAs (fun tm h => h = h0 ∧ Cs1 P l B (h0.touch B) 0 tm h) (fun _ _ => False) (fun _ _ _ => False) (runCode TT (evK TT C (m + 2)) ⟨32, none⟩ (piece Tryz.f32 [true,true,false,false]) ⟨tm, [], h, none⟩) := by
      rintro tm h ⟨rfl, t0, t3⟩
      simp [piece, sel, sub, Tryz.f32, t0, t3]
      exact ⟨rfl, hr, by simp [t0], by simp [t3, psum], by simp, by simp, by simp⟩
    have p4 : ∀ tm h, (h = h0.touch B ∧ Cs1 P l B (h0.touch B) P.length tm h) → EndsAs (fun tm h => h = (h0.touch B).new (.cells (zgc (n + 1)) 58 true) ∧ tm.get 0 = some (prow P B) ∧ tm.get 6 = some (.slice (some ⟨h0.next, 0, none⟩) 0 (n + 1))) (fun _ _ => False) (fun _ _ _ => False) (runCode TT (evK TT C (m + 2)) ⟨32, none⟩ (piece Tryz.f32 [true,true,true,false]) ⟨tm, [], h, none⟩) := by
      rintro tm h ⟨rfl, st⟩
      have t0 := st.t0
      have t3 := st.t3
      rw [hs] at t3
      simp at t3
      simp [piece, sel, sub, Tryz.f32, t0, t3, e83]
    have p5 : ∀ tm h, (h = (h0.touch B).new (.cells (zgc (n + 1)) 58 true) ∧ tm.get 0 = some (prow P B) ∧ tm.get 6 = some (.slice (some ⟨h0.next, 0, none⟩) 0 (n + 1))) → EndsAs (fun tm h => Cs2 P l B (h0.touch B) (n + 1) 0 tm h) (fun _ _ => False) (fun _ _ _ => False) (runCode TT (evK TT C (m + 2)) ⟨32, none⟩ (piece Tryz.f32 [true,true,true,true,false,false]) ⟨tm, [], h, none⟩) := by
      rintro tm h ⟨rfl, t0, t6⟩
      simp [piece, sel, sub, Tryz.f32, t0, t6]
      exact ⟨by simp, by simp, (new_rd _ _).1, (new_rd _ _).2, fun j hj => (by have hj : ¬ j = h0.next := (by simpa using hj); simp [hj]), row_start (n + 1) (by simp [hb]), by simp [t6, psum], by simp, by simp, by simp⟩
    refine ends_seqC (p0.mono (fun _ _ q => q) (fun _ _ q => q.elim) (fun _ _ _ q => q)) fun tm h q => ends_seqC ((p1 tm h q).mono (fun _ _ q => q) (fun _ _ q => q.elim) (fun _ _ _ q => q)) fun tm h q =>
      ends_seqC (N' := fun tm h => h = h0.touch B ∧ Cs1 P l B (h0.touch B) P.length tm h) (ends_seqC ((p2 tm h q).mono (fun _ _ q => q) (fun _ _ q => q.elim) (fun _ _ _ q => q)) fun tm h q => ?_) fun tm h q =>
      ends_seqC ((p4 tm h q).mono (fun _ _ q => q) (fun _ _ q => q.elim) (fun _ _ _ q => q)) fun tm h q =>
      ends_seqC (N' := fun tm h => Cs2 P l B (h0.touch B) (n + 1) P.length tm h) (ends_seqC ((p5 tm h q).mono (fun _ _ q => q) (fun _ _ q => q.elim) (fun _ _ _ q => q)) fun tm h q => ?_) fun tm h q => ?_
    · refine ends_loop 0 (fun j tm h => ∃ i, j = P.length - i ∧ i ≤ P.length ∧ (0 < i → h = h0.touch B) ∧ Cs1 P l B (h0.touch B) i tm h) P.length ⟨0, rfl, by omega, fun h => by omega, q.2⟩ (by omega) ?_
      rintro j tm h m ⟨i, rfl, hi, hh, st⟩ -
      by_cases hlt : i < P.length
      · have hw : psum P (i + 1) ≤ big := by have := psum_le P (i + 1) P.length (by omega) (Nat.le_refl _); unfold big; omega
        exact (f32_iter1 st hlt hbig hw).mono (fun tm' h' q => ⟨_, by omega, i + 1, rfl, hlt, fun _ => q.1, q.2⟩) (fun _ _ q => q.elim) (fun _ _ _ q => q.elim)
      · have e : i = P.length := by omega
        subst e
        have hh := hh hp0
        exact (f32_end1 st (Nat.le_refl _)).mono (fun _ _ q => q.elim) (fun _ _ q => q.elim) (fun _ _ _ q => ⟨q.1, q.2.1.trans hh, q.2.2⟩)
    · refine ends_loop 0 (fun j tm h => ∃ i, j = P.length - i ∧ i ≤ P.length ∧ Cs2 P l B (h0.touch B) (n + 1) i tm h) P.length ⟨0, rfl, by omega, q⟩ (by omega) ?_
      rintro j tm h m ⟨i, rfl, hi, st⟩ -
      by_cases hlt : i < P.length
      · exact (f32_iter2 (fun h' e1 e2 => touch_quiet e1 e2) (by simp [hr]) (by simp [hB]) hP (by omega) hn st hlt hbig).mono (fun tm' h' q => ⟨_, by omega, i + 1, rfl, hlt, q⟩) (fun _ _ q => q.elim) (fun _ _ _ q => q.elim)
      · have e : i = P.length := by omega
        subst e
        exact (f32_end2 st (Nat.le_refl _)).mono (fun _ _ q => q.elim) (fun _ _ q => q.elim) (fun _ _ _ q => q)
    · obtain ⟨b1, b2, b3, b4, b5, hR, t6, t25, t26, t27⟩ := q
      rw [hs] at t6
      have hfull := hR.full (by rw [flat_len hP _ (Nat.le_refl _), hs])
      rw [List.take_length] at hfull
      simp at t6 b1 b2 b5 hfull
      rw [touch_wr] at b4
      simp [piece, sel, sub, Tryz.f32, t6]
      exact ⟨b1, b2, b3, b4, hfull, b5⟩
  rcases key.cases with ⟨_, _, _, q⟩ | ⟨tm, h', e, t2, q⟩ | ⟨_, _, _, _, q⟩
  · cases q
  · refine ⟨h', ?_, q⟩
    rw [evK_call _ (by rw [c32]), fn_run (vs := [.slice (some ⟨h0.next, 0, none⟩) (n + 1) (n + 1)]) (h2 := h') (ab := none) TT.f32 f32_split rfl (by rw [e]; simp [t2])]
    rfl
  · cases q
end Go.Proofs.YtkdfgoimgcegfaaGreatDoor
/- Layer 35: Focus of the program, exactly. -/
namespace Go.Proofs.YtkdfgoimgcegfaaGreatDoor
open Go Go.Am Go.Proofs Go.Am.Sym Go.Am.Eu
set_option maxRecDepth 10000
theorem TT.f13 : TT.func 13 = some Tryz.f13 := by kernel_rfl
theorem f13_split : Tryz.f13.body = some (.seq (piece Tryz.f13 [false]) (.seq (piece Tryz.f13 [true,false]) (.seq (piece Tryz.f13 [true,true,false]) (piece Tryz.f13 [true,true,true])))) := rfl
theorem bs146 (h : H) (l : List Goal) (p q r : Nat × Nat) : buildSliceOf TT h 3 (some (.slice 36)) (some [(0, gpart l p), (1, gpart l q), (2, gpart l r)]) = .val (.slice (some ⟨h.next, 0, none⟩) 3 3) (h.new (.cells [gpart l p, gpart l q, gpart l r] 36 false)) := by kernel_rfl
def parts (l : List Goal) (k : Nat) : List (Nat × Nat) := [(k, 1), (0, k), (k + 1, l.length - (k + 1))]
theorem parts_le {l : List Goal} {k : Nat} (hk : k < l.length) : ∀ p ∈ parts l k, p.1 + p.2 ≤ l.length := by
  intro p hp
  simp [parts] at hp
  rcases hp with rfl | rfl | rfl
  · show k + 1 ≤ _; omega
  · show 0 + k ≤ _; omega
  · show k + 1 + (l.length - (k + 1)) ≤ _; omega
theorem parts_sum {l : List Goal} {k : Nat} (hk : k < l.length) : psum (parts l k) (parts l k).length = l.length := by
  show 1 + (k + (l.length - (k + 1) + 0)) = _; omega
theorem parts_all {l : List Goal} {k : Nat} (hk : k < l.length) : (parts l k).flatMap (gsub l) = l[k] :: l.eraseIdx k := by
  show (l.drop k).take 1 ++ ((l.drop 0).take k ++ ((l.drop (k + 1)).take (l.length - (k + 1)) ++ [])) = _
  have e : (l.drop (k + 1)).take (l.length - (k + 1)) = l.drop (k + 1) := List.take_of_length_le (by rw [List.length_drop]; exact Nat.le_refl _)
  rw [List.drop_zero, List.append_nil, e, List.eraseIdx_eq_take_drop_succ, List.drop_eq_getElem_cons hk]; rfl
noncomputable def fo13 (p : Proof) : H := (H.empty.new (.cells (cellsL (proofV p)) 38 false)).new (.cells zp 38 false)
theorem f13_p2 {C : Con} (c32 : C 32 = fun _ _ => none) (c83 : C 83 = fun _ _ => none) {p : Proof} {k M : Nat} {tm : Tr Value} (hk : k < p.goals.length) (hl : p.goals.length ≤ 1073741824) (hM : 1010 ≤ M) (t1 : tm.get 1 = some (i64 k)) (t2 : tm.get 2 = some (.pointer (some ⟨0, 0, none⟩))) (t4 : tm.get 4 = some (.pointer (some ⟨1, 0, none⟩))) :
    EndsAs (fun tm h => h.base = 0 ∧ h.get 0 = some (.cells (fpC p (.slice (some ⟨3, 0, none⟩) p.goals.length p.goals.length)) 38 false) ∧ h.get 1 = some (.cells zp 38 false) ∧ h.get 3 = some (.cells (gcs (p.goals[k] :: p.goals.eraseIdx k)) 58 true) ∧
      tm.get 2 = some (.pointer (some ⟨0, 0, none⟩)) ∧ tm.get 4 = some (.pointer (some ⟨1, 0, none⟩))) (fun _ _ => False) (fun _ _ _ => False)
      (runCode TT (evK TT C (M + 1)) ⟨13, none⟩ (piece Tryz.f13 [true,true,false]) ⟨tm, [], fo13 p, none⟩) := by
  have w := wrapN (n := k + 1) (by unfold big; omega)
  simp at w
  obtain ⟨n, hn⟩ : ∃ n, p.goals.length = n + 1 := ⟨p.goals.length - 1, by omega⟩
  have g0 : (fo13 p).get 0 = some (.cells (cellsL (proofV p)) 38 false) := by simp [fo13]
  have g1 : (fo13 p).get 1 = some (.cells zp 38 false) := by simp [fo13]
  have hb : (fo13 p).base = 0 := by simp [fo13]
  have hnx : (fo13 p).next = 2 := by simp [fo13]
  obtain ⟨h', e32, b1, b2, b3, b4, b5, b6⟩ := run32 c32 c83 (P := parts p.goals k) (l := p.goals) (B := 2) (n := n) (m := M) (h0 := ((fo13 p).new (.cells [gpart p.goals (k, 1), gpart p.goals (0, k), gpart p.goals (k + 1, p.goals.length - (k + 1))] 36 false)).fresh) (by simp) (by simp [hnx]; rfl) (by simp [hnx])
    (parts_le hk) (by show 0 < 3; omega) (by show 3 < 1000; omega) (by rw [parts_sum hk, hn]) (by omega) hM
  rw [parts_all hk] at b5
  have el : (parts p.goals k).length = 3 := rfl
  simp [hnx] at b1 b2 b5 b6
  rw [prow, el] at e32
  simp [hnx] at e32
  simp [piece, sel, sub, Tryz.f13, t1, t2, t4, hb, hnx, g0, w, sl36_mid hk, sl36_low hk, sl36_high hk, bs146]
  have b3' : h'.rd = bit 2 := by
    rw [b3, touch_eq, if_neg (by simp [hnx]), fresh_eq]
    exact zero_lor _
  have b4' : h'.wr = 0 := by rw [b4, fresh_eq]
  rw [done_new (hb := hb) (ha := by kernel_rfl)]
  simp [hb, hnx, t2, t4, e32]
  rw [done_note (rd := bit 2) (wr := bit 3) (hb := by simp [hb]) (hr := b3') (hw := by
    show Nat.lor h'.wr (rangeBits ((fo13 p).new _).next h'.next) = _
    rw [b4', b2, h_new_next, hnx, rangeBits_one, zero_lor]) (hz := by rw [bit_ne]; rfl) (ha := by kernel_rfl)]
  generalize hRe : (H.mk h'.m h'.next _ _ _) = hR
  have rb : hR.base = 0 := by rw [← hRe]; simp [hb]
  have rn : hR.next = 4 := by rw [← hRe]; exact b2
  have rg : ∀ j, hR.get j = h'.get j := fun j => by rw [← hRe]; rfl
  have r0 : hR.get 0 = some (.cells (cellsL (proofV p)) 38 false) := by rw [rg, b6 0 (by omega)]; simp [g0]
  have r1 : hR.get 1 = some (.cells zp 38 false) := by rw [rg, b6 1 (by omega)]; simp [g1]
  have r3 := rg 3
  rw [b5] at r3
  have ss := store36 hR.fresh p (.slice (some ⟨3, 0, none⟩) (n + 1) (n + 1)) rfl rfl (by rw [fresh_get]; exact r0)
  simp [t2, t4, rb, rn, ss]
  rw [done_put (hb := rb) (hlt := by rw [rn]; omega) (ha := by kernel_rfl)]
  simp [rb, r1, r3, t2, t4, hn]
end Go.Proofs.YtkdfgoimgcegfaaGreatDoor
/- Layer 35: Focus of the program: the contract. -/
namespace Go.Proofs.YtkdfgoimgcegfaaGreatDoor
open Go Go.Am Go.Proofs Go.Am.Sym Go.Am.Eu
set_option maxRecDepth 10000
theorem dat_goals {g : Nat → Option AObj} {b : Nat} {gr : Bool} {L : List Goal} (hg : g b = some (.cells (gcs L) 58 gr)) : DatV g (.slice (some ⟨b, 0, none⟩) L.length L.length) (goalsV L) := by
  refine DatV.slice (pre := []) (post := []) (es := L.map goalV) (ds := L.map goalV) (e := 58) (gr := gr) (sz := 8) (by rw [hg]; simp [gcs]) rfl (fun y hy => ?_) (by simp) (Nat.le_refl _) (DatL.pure (map_pure goalV_pure _))
  obtain ⟨s, _, rfl⟩ := List.mem_map.1 hy; rfl
theorem focus13 : FnC TT Tryz.prog 13 (fun x : Proof × Int => x.1.goals.length < lim) (fun x => [proofV x.1, i64 x.2]) (fun x => .tuple ⟨[proofV (foP x.1 x.2), i64 (foE x.1 x.2)]⟩) := by
  rintro ⟨p, k⟩ hx h
  have hx : p.goals.length < lim := hx
  unfold lim at hx
  have key : EndsAs (fun _ _ => False) (FoR p k) (fun _ _ _ => False) (runCode TT (evK TT noC (2000 + 1)) ⟨13, none⟩ (.seq (piece Tryz.f13 [false]) (.seq (piece Tryz.f13 [true,false]) (.seq (piece Tryz.f13 [true,true,false]) (piece Tryz.f13 [true,true,true])))) ⟨initT [proofV p, i64 k] 0 .nil, [], H.empty, none⟩) := by
    generalize hM : (2000 : Nat) = M
    have p0 : EndsAs (fun tm h => h = fo13 p ∧ tm.get 1 = some (i64 k) ∧ tm.get 2 = some (.pointer (some ⟨0, 0, none⟩)) ∧ tm.get 4 = some (.pointer (some ⟨1, 0, none⟩))) (fun _ _ => False) (fun _ _ _ => False) (runCode TT (evK TT noC (M + 1)) ⟨13, none⟩ (piece Tryz.f13 [false]) ⟨initT [proofV p, i64 k] 0 .nil, [], H.empty, none⟩) := by
      simp [piece, sel, sub, Tryz.f13, fo13]
    have p1 : ∀ tm h, (h = fo13 p ∧ tm.get 1 = some (i64 k) ∧ tm.get 2 = some (.pointer (some ⟨0, 0, none⟩)) ∧ tm.get 4 = some (.pointer (some ⟨1, 0, none⟩))) → EndsAs (fun tm h => foOk p k ∧ h = fo13 p ∧ tm.get 1 = some (i64 k) ∧ tm.get 2 = some (.pointer (some ⟨0, 0, none⟩)) ∧ tm.get 4 = some (.pointer (some ⟨1, 0, none⟩))) (FoR p k) (fun _ _ _ => False)
        (runCode TT (evK TT noC (M + 1)) ⟨13, none⟩ (piece Tryz.f13 [true,false]) ⟨tm, [], h, none⟩) := by
      rintro tm h ⟨rfl, t1, t2, t4⟩
      have g0 : (fo13 p).get 0 = some (.cells (cellsL (proofV p)) 38 false) := by simp [fo13]
      have g1 : (fo13 p).get 1 = some (.cells zp 38 false) := by simp [fo13]
      have hb : (fo13 p).base = 0 := by simp [fo13]
      have hnx : (fo13 p).next = 2 := by simp [fo13]
      have hs := store38 (fo13 p) 1 zp rfl rfl (c0 := zp) (e := 38) (g := false) g1 rfl
      have bad : ¬ foOk p k → foP p k = zeroP ∧ foE p k = 2 := fun h => ⟨by unfold foP; rw [dif_neg h], by unfold foE; rw [if_neg h]⟩
      by_cases c1 : k < 0
      · obtain ⟨hP, hE⟩ := bad fun h => by have := h.1; omega
        simp [piece, sel, sub, Tryz.f13, t1, t2, t4, c1, hs, condK_if, hb, hnx, g0]
        exact ⟨zp, false, by simp [t4], by simp [hE], by simp [hb], by simp, rfl, by rw [hP]; exact dat_zp _⟩
      · by_cases c2 : ((p.goals.length : Nat) : Int) ≤ k
        · obtain ⟨hP, hE⟩ := bad fun h => by have := h.2; omega
          simp [piece, sel, sub, Tryz.f13, t1, t2, t4, c1, c2, hs, condK_if, hb, hnx, g0]
          exact ⟨zp, false, by simp [t4], by simp [hE], by simp [hb], by simp, rfl, by rw [hP]; exact dat_zp _⟩
        · simp [piece, sel, sub, Tryz.f13, t1, t2, t4, c1, c2, condK_if, hb, hnx, g0]
          exact ⟨by omega, by omega⟩
    refine ends_seqC (p0.mono (fun _ _ q => q) (fun _ _ q => q.elim) (fun _ _ _ q => q)) fun tm h q => ends_seqC (p1 tm h q) ?_
    rintro tm h ⟨ok, rfl, t1, t2, t4⟩
    obtain ⟨n, rfl⟩ : ∃ n : Nat, k = n := ⟨k.toNat, by have := ok.1; omega⟩
    have hn : n < p.goals.length := by simpa using ok.2
    refine ends_seqC ((f13_p2 rfl rfl hn (by omega) (by omega) t1 t2 t4).mono (fun _ _ q => q) (fun _ _ q => q.elim) (fun _ _ _ q => q)) ?_
    rintro tm h ⟨hb, c0, c1, hg, t2, t4⟩
    have hP : foP p n = { p with goals := p.goals[n] :: p.goals.eraseIdx n } := by unfold foP; rw [dif_pos ok]; rfl
    have hE : foE p n = 0 := by unfold foE; rw [if_pos ok]
    have hlen : p.goals.length = (p.goals[n] :: p.goals.eraseIdx n).length := by rw [List.length_cons, List.length_eraseIdx_of_lt hn]; omega
    have s2 := store38 h 1 (fpC p (.slice (some ⟨3, 0, none⟩) p.goals.length p.goals.length)) rfl rfl (c0 := zp) (e := 38) (g := false) c1 rfl
    have hp := p38_at (fpC p (.slice (some ⟨3, 0, none⟩) p.goals.length p.goals.length)) rfl
    have hd : DatV (h.put 1 (.cells (fpC p (.slice (some ⟨3, 0, none⟩) p.goals.length p.goals.length)) 38 false)).get (.slice (some ⟨3, 0, none⟩) p.goals.length p.goals.length) (goalsV (p.goals[n] :: p.goals.eraseIdx n)) := by
      have d := dat_goals (g := (h.put 1 (.cells (fpC p (.slice (some ⟨3, 0, none⟩) p.goals.length p.goals.length)) 38 false)).get) (b := 3) (gr := true) (L := p.goals[n] :: p.goals.eraseIdx n) (by simp [hg])
      rw [← hlen] at d
      exact d
    generalize hV : Value.slice (some ⟨3, 0, none⟩) p.goals.length p.goals.length = V at c0 s2 hp hd
    simp [piece, sel, sub, Tryz.f13, t2, t4, hb, c0, s2, hp]
    exact ⟨fpC p V, false, by simp [t4], by simp [hE], by simp [hb], by simp, rfl, by rw [hP]; exact dat_fp hd⟩
  rcases key.cases with ⟨_, _, _, q⟩ | ⟨tm, m, e, c, gg, t4, t5, hb0, hc, hl, hd⟩ | ⟨_, _, _, _, q⟩
  · cases q
  · refine fnC_of (v := .tuple ⟨[.agg ⟨c⟩, i64 (foE p k)]⟩) (h1 := m) tok noC noC_sound (.cons (proofV_pure _) (.cons (.ground rfl) .nil)) (2000 + 1) ?_ (.tuple (.cons hd (.cons (.pure (.ground rfl)) .nil))) h
    rw [fn_run (vs := [.agg ⟨c⟩, i64 (foE p k)]) (h2 := m) (ab := none) TT.f13 f13_split rfl (by rw [e]; simp [t4, t5, hc, hb0, p38_at c hl])]
    rfl
  · cases q
end Go.Proofs.YtkdfgoimgcegfaaGreatDoor
