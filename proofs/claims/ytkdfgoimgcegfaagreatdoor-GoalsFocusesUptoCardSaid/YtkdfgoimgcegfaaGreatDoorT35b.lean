/- Types and places of layer 31. -/
import Derived.Test.YtkdfgoimgcegfaaGreatDoorS35
import Derived.Test.YtkdfgoimgcegfaaGreatDoorAmStr
set_option linter.unusedSectionVars false
set_option linter.unusedSimpArgs false
set_option linter.unusedVariables false
namespace Go.Proofs.YtkdfgoimgcegfaaGreatDoor
open Go Go.Am Go.Proofs Go.Am.Sym Go.Am.Eu
set_option maxRecDepth 10000
@[simp] theorem TT.u24 : TT.under 24 = some (.slice 26) := by kernel_rfl
@[simp] theorem TT.u23 : TT.under 23 = some (.slice 86) := by kernel_rfl
@[simp] theorem TT.u84 : TT.under 84 = some (.slice 191) := by kernel_rfl
@[simp] theorem TT.u22 : TT.under 22 = some (.slice 9) := by kernel_rfl
@[simp] theorem TT.u9 : TT.under 9 = some .string := by kernel_rfl
theorem agg3 : Am.isAgg TT 3 = some false := by kernel_rfl
theorem agg4 : Am.isAgg TT 4 = some false := by kernel_rfl
theorem agg9 : Am.isAgg TT 9 = some false := by kernel_rfl
theorem agg22 : Am.isAgg TT 22 = some false := by kernel_rfl
theorem agg23 : Am.isAgg TT 23 = some false := by kernel_rfl
theorem agg84 : Am.isAgg TT 84 = some false := by kernel_rfl
theorem agg86 : Am.isAgg TT 86 = some true := by kernel_rfl
theorem agg191 : Am.isAgg TT 191 = some true := by kernel_rfl
theorem s86 : Am.size TT 86 = some 2 := by kernel_rfl
theorem s191 : Am.size TT 191 = some 2 := by kernel_rfl
theorem s9 : Am.size TT 9 = some 1 := by kernel_rfl
theorem p3 (c : List Value) (off : Nat) : partOf TT 3 c off = c[off]? := part_one agg3 c off
theorem p4 (c : List Value) (off : Nat) : partOf TT 4 c off = c[off]? := part_one agg4 c off
theorem p9 (c : List Value) (off : Nat) : partOf TT 9 c off = c[off]? := part_one agg9 c off
theorem p22 (c : List Value) (off : Nat) : partOf TT 22 c off = c[off]? := part_one agg22 c off
theorem p23 (c : List Value) (off : Nat) : partOf TT 23 c off = c[off]? := part_one agg23 c off
theorem p84 (c : List Value) (off : Nat) : partOf TT 84 c off = c[off]? := part_one agg84 c off
theorem p86 (a b : Value) : partOf TT 86 [a, b] 0 = some (.agg ⟨[a, b]⟩) := by rw [part_agg agg86 s86]; rfl
theorem p191 (a b : Value) : partOf TT 191 [a, b] 0 = some (.agg ⟨[a, b]⟩) := by rw [part_agg agg191 s191]; rfl
theorem cells_lvl (x : Lvl) : cellsL (lvlV x) = [i64 x.const, lvarsV x.vars] := rfl
theorem cells_lvar (x : LVar) : cellsL (lvarV x) = [i64 x.index, i64 x.plus] := rfl
@[simp] theorem p86_lvl (x : Lvl) : partOf TT 86 (cellsL (lvlV x)) 0 = some (lvlV x) := by rw [part_agg agg86 s86]; rfl
@[simp] theorem p191_lvar (x : LVar) : partOf TT 191 (cellsL (lvarV x)) 0 = some (lvarV x) := by rw [part_agg agg191 s191]; rfl
section
variable (h : H) (b o : Nat) (e : Value)
@[simp] theorem fa_26_0 : fieldAddrOf TT h 26 0 (some (.pointer (some ⟨b, o, none⟩))) = .val (.pointer (some ⟨b, o + 0, none⟩)) h := by kernel_rfl
@[simp] theorem fa_26_1 : fieldAddrOf TT h 26 1 (some (.pointer (some ⟨b, o, none⟩))) = .val (.pointer (some ⟨b, o + 1, none⟩)) h := by kernel_rfl
@[simp] theorem fa_26_2 : fieldAddrOf TT h 26 2 (some (.pointer (some ⟨b, o, none⟩))) = .val (.pointer (some ⟨b, o + 2, none⟩)) h := by kernel_rfl
@[simp] theorem fa_26_3 : fieldAddrOf TT h 26 3 (some (.pointer (some ⟨b, o, none⟩))) = .val (.pointer (some ⟨b, o + 3, none⟩)) h := by kernel_rfl
@[simp] theorem fa_86_0 : fieldAddrOf TT h 86 0 (some (.pointer (some ⟨b, o, none⟩))) = .val (.pointer (some ⟨b, o + 0, none⟩)) h := by kernel_rfl
@[simp] theorem fa_86_1 : fieldAddrOf TT h 86 1 (some (.pointer (some ⟨b, o, none⟩))) = .val (.pointer (some ⟨b, o + 1, none⟩)) h := by kernel_rfl
@[simp] theorem fa_191_0 : fieldAddrOf TT h 191 0 (some (.pointer (some ⟨b, o, none⟩))) = .val (.pointer (some ⟨b, o + 0, none⟩)) h := by kernel_rfl
@[simp] theorem fa_191_1 : fieldAddrOf TT h 191 1 (some (.pointer (some ⟨b, o, none⟩))) = .val (.pointer (some ⟨b, o + 1, none⟩)) h := by kernel_rfl
@[simp] theorem fd_191_0 : fieldAddrOf TT h 191 0 (some (dptr e o)) = .val (dptr e (o + 0)) h := by kernel_rfl
@[simp] theorem fd_191_1 : fieldAddrOf TT h 191 1 (some (dptr e o)) = .val (dptr e (o + 1)) h := by kernel_rfl
end
@[simp] theorem idx_lvars {h : H} {l : List LVar} {k : IntKind} {i : Nat} (hi : i < l.length) : indexAddrOf TT h (some (.slice 191)) (some (lvarsV l)) (some (.int k (i : Int))) = .val (dptr (lvarV l[i]) 0) h :=
  indexAddr_data (e := lvarV l[i]) s191 hi (by simp [hi]) rfl
@[simp] theorem idx_lvls {h : H} {l : List Lvl} {k : IntKind} {i : Nat} (hi : i < l.length) : indexAddrOf TT h (some (.slice 86)) (some (lvlsV l)) (some (.int k (i : Int))) = .val (dptr (lvlV l[i]) 0) h :=
  indexAddr_data (e := lvlV l[i]) s86 hi (by simp [hi]) rfl
@[simp] theorem idx_strs {h : H} {l : List ByteArray} {k : IntKind} {i : Nat} (hi : i < l.length) : indexAddrOf TT h (some (.slice 9)) (some (strsV l)) (some (.int k (i : Int))) = .val (dptr (.string l[i]) 0) h :=
  indexAddr_data (e := .string l[i]) s9 hi (by simp [hi]) rfl
@[simp] theorem len_lvars (h : H) (e : TypeId) (l : List LVar) : lenBy h (some (.slice e)) (lvarsV l) = .val (.int .i64 l.length) h := rfl
@[simp] theorem len_lvls (h : H) (e : TypeId) (l : List Lvl) : lenBy h (some (.slice e)) (lvlsV l) = .val (.int .i64 l.length) h := rfl
@[simp] theorem len_strs (h : H) (e : TypeId) (l : List ByteArray) : lenBy h (some (.slice e)) (strsV l) = .val (.int .i64 l.length) h := rfl
@[simp] theorem load_dptr (h : H) (t : TypeId) (e : Value) (f : Nat) : loadAt TT h t (dptr e f) = vres h (partOf TT t (cellsL e) f) := rfl
@[simp] theorem cells_agg (l : List Value) : cellsL (.agg ⟨l⟩) = l := rfl
theorem oneCells_cons_int (k : IntKind) (n : Int) (l : List Value) : oneCells (.int k n :: l) = oneCells l := rfl
@[simp] theorem store191 {h : H} {b : Nat} (x : LVar) : storeAt TT h 191 (lvarV x) (.pointer (some ⟨b, 0, none⟩)) = storeIn h b 0 (cellsL (lvarV x)) (h.get b) := by
  show onB none (storeIn h b 0 (cellsL (lvarV x)) (h.get b)) (fits (cellsL (lvarV x)) (Am.size TT 191)) = _
  rw [s191]; rfl
@[simp] theorem store26 {h : H} {b : Nat} (t : Term) : storeAt TT h 26 (tv t) (.pointer (some ⟨b, 0, none⟩)) = storeIn h b 0 (cellsL (tv t)) (h.get b) := by
  show onB none (storeIn h b 0 (cellsL (tv t)) (h.get b)) (fits (cellsL (tv t)) (Am.size TT 26)) = _
  rw [s26, cells_tv]; rfl
@[simp] theorem storeIn_lvar (h : H) (b : Nat) (x : LVar) (u w : Value) (e : TypeId) (g : Bool) : storeIn h b 0 (cellsL (lvarV x)) (some (.cells [u, w] e g)) = some (h.put b (.cells (cellsL (lvarV x)) e g)) := rfl
@[simp] theorem storeIn_tv0 (h : H) (b : Nat) (t : Term) (u v w x y : Value) (e : TypeId) (g : Bool) : storeIn h b 0 (cellsL (tv t)) (some (.cells [u, v, w, x, y] e g)) = some (h.put b (.cells (cellsL (tv t)) e g)) := by
  rw [cells_tv]; rfl
@[simp] theorem storeIn_tv (h : H) (b : Nat) (t s : Term) (e : TypeId) (g : Bool) : storeIn h b 0 (cellsL (tv t)) (some (.cells (cellsL (tv s)) e g)) = some (h.put b (.cells (cellsL (tv t)) e g)) := by
  rw [cells_tv s, storeIn_tv0]
@[simp] theorem p3_lvar0 (x : LVar) : partOf TT 3 (cellsL (lvarV x)) 0 = some (i64 x.index) := by rw [p3]; rfl
@[simp] theorem p3_lvar1 (x : LVar) : partOf TT 3 (cellsL (lvarV x)) 1 = some (i64 x.plus) := by rw [p3]; rfl
@[simp] theorem p3_lvl0 (x : Lvl) : partOf TT 3 (cellsL (lvlV x)) 0 = some (i64 x.const) := by rw [p3]; rfl
@[simp] theorem p84_lvl1 (x : Lvl) : partOf TT 84 (cellsL (lvlV x)) 1 = some (lvarsV x.vars) := by rw [p84]; rfl
@[simp] theorem p3_tv0 (t : Term) : partOf TT 3 (cellsL (tv t)) 0 = some (i64 t.kind) := by rw [p3, cells_tv]; rfl
@[simp] theorem p3_tv1 (t : Term) : partOf TT 3 (cellsL (tv t)) 1 = some (i64 t.index) := by rw [p3, cells_tv]; rfl
@[simp] theorem p9_tv2 (t : Term) : partOf TT 9 (cellsL (tv t)) 2 = some (.string t.name) := by rw [p9, cells_tv]; rfl
@[simp] theorem p23_tv3 (t : Term) : partOf TT 23 (cellsL (tv t)) 3 = some (lvlsV t.levels) := by rw [p23, cells_tv]; rfl
@[simp] theorem p24_tv4 (t : Term) : partOf TT 24 (cellsL (tv t)) 4 = some (termsV t.kids) := by rw [p24, cells_tv]; rfl
@[simp] theorem p9_str (x : ByteArray) : partOf TT 9 (cellsL (.string x)) 0 = some (.string x) := by rw [p9]; rfl
@[simp] theorem z26 : zero TT 26 = some (.agg ⟨[i64 0, i64 0, .string ⟨#[]⟩, .slice none 0 0, .slice none 0 0]⟩) := by kernel_rfl
@[simp] theorem z191 : zero TT 191 = some (.agg ⟨[i64 0, i64 0]⟩) := by kernel_rfl
@[simp] theorem beql (h : H) (x y : Operand) (a b : Bool) : binOf TT h .eql 4 x y (some (.bool a)) (some (.bool b)) = .val (.bool (a == b)) h := by kernel_rfl
@[simp] theorem bmax (h : H) (a b : Int) : builtinOf TT h #[3, 3] 3 [i64 a, i64 b] .max = .of (.val (i64 (if a < b then b else a)) h) := by kernel_rfl
theorem under_9 : TT.prog.underlying 9 = some .string := by kernel_rfl
attribute [simp] fa_26_4 p26_tv idx_terms len_terms
end Go.Proofs.YtkdfgoimgcegfaaGreatDoor
