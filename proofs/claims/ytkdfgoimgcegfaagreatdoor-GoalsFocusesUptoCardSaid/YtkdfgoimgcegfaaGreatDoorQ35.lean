/- Variables of levels, compared as structs. -/
import Derived.Test.YtkdfgoimgcegfaaGreatDoorE35a
set_option linter.unusedSectionVars false
set_option linter.unusedSimpArgs false
set_option linter.unusedVariables false
namespace Go.Am
open Go Go.Am.Eu
theorem pureRun_bind {p : Program} {α β : Type} (s : Sem α) (f : α → Sem β) : pureRun p (Sem.bind s f) = (pureRun p s).bind fun a => pureRun p (f a) := by
  induction s with
  | pure a => rfl
  | program k ih => exact ih p
  | _ => rfl
theorem list2 {α : Type} {l : List α} (h : l.length = 2) : ∃ a b, l = [a, b] := by
  match l, h with
  | [a, b], _ => exact ⟨a, b, rfl⟩
section
variable {P : Program}
theorem b1 {α β : Type} (m : Sem α) (f : α → Sem β) : (m >>= f) = Sem.bind m f := rfl
theorem b2 {α : Type} (a : α) : (pure a : Sem α) = Sem.pure a := rfl
theorem b3 {α : Type} (a : α) : pureRun P (Sem.pure a) = some a := rfl
theorem b4 {α : Type} (f : Program → Sem α) : pureRun P (Sem.program f) = pureRun P (f P) := rfl
theorem part_pure {t : TypeId} (ha : pureRun P (Go.isAgg t) = some false) (v : Value) (l : List Value) (i : Nat) (hi : l[i]? = some v) : pureRun P (part t ⟨l⟩ i) = some v := by
  have hi' : (⟨l⟩ : Array Value)[i]? = some v := by simpa using hi
  simp [part, b1, b2, b3, pureRun_bind, ha, hi']
theorem eq_int {t : TypeId} (h3 : P.underlying t = some (.int .i64)) (n : Nat) (a : Int) : pureRun P (Op.equalIn (n + 1) t (i64 a) (i64 a)) = some true := by
  simp [Op.equalIn, b1, b2, b3, b4, pureRun_bind, underlying, program, h3]
theorem eq_lvar {t : TypeId} {fs : Array Field} (ht : P.underlying t = some (.struct fs)) (hs : P.stoodInHeld t = false) (h3 : P.underlying 3 = some (.int .i64)) (ha : pureRun P (Go.isAgg 3) = some false)
    (hl : fs.toList.map (fun f => (f.name == "_", f.type, f.offset)) = [(false, 3, 0), (false, 3, 1)]) (x : LVar) (n : Nat) : pureRun P (Op.equalIn (n + 1 + 1) t (lvarV x) (lvarV x)) = some true := by
  obtain ⟨f0, f1, hfs⟩ : ∃ f0 f1, fs.toList = [f0, f1] := list2 (by have := congrArg List.length hl; simpa using this)
  rw [hfs] at hl
  simp at hl
  obtain ⟨⟨n0, ty0, o0⟩, n1, ty1, o1⟩ := hl
  have e0 := part_pure ha (i64 x.index) [i64 x.index, i64 x.plus] 0 rfl
  have e1 := part_pure ha (i64 x.plus) [i64 x.index, i64 x.plus] 1 rfl
  have q0 := eq_int h3 n x.index
  have q1 := eq_int h3 n x.plus
  unfold lvarV
  unfold Op.equalIn
  simp [b1, b2, b3, b4, pureRun_bind, underlying, program, ht, hs]
  rw [← Array.forIn_toList, hfs]
  simp [b1, b2, b3, b4, pureRun_bind, n0, n1, ty0, ty1, o0, o1, e0, e1, q0, q1]
theorem neq_lvar {t : TypeId} {fs : Array Field} (ht : P.underlying t = some (.struct fs)) (hs : P.stoodInHeld t = false) (h3 : P.underlying 3 = some (.int .i64)) (ha : pureRun P (Go.isAgg 3) = some false)
    (hl : fs.toList.map (fun f => (f.name == "_", f.type, f.offset)) = [(false, 3, 0), (false, 3, 1)]) (hg : P.eqGuardType P.depth t = false) (a : LVar) (x y : Operand) :
    pureRun P (do eqGuard .neq t x y (lvarV a) (lvarV a); binOp .neq t (lvarV a) (lvarV a)) = some (.bool false) := by
  have hq : pureRun P (Op.equal t (lvarV a) (lvarV a)) = some true := eq_lvar ht hs h3 ha hl a 9998
  unfold lvarV at hq ⊢
  simp [eqGuard, binOp, b1, b2, b3, b4, pureRun_bind, program, hg, hq]
end
end Go.Am
namespace Go.Proofs.YtkdfgoimgcegfaaGreatDoor
open Go Go.Am Go.Proofs Go.Am.Sym Go.Am.Eu
set_option maxRecDepth 10000
noncomputable def fs191 : Array Field := match Tryz.prog.underlying 191 with | some (.struct fs) => fs | _ => #[]
theorem neq191e (x y : Operand) (a : LVar) : pureRun Tryz.prog (do eqGuard .neq 191 x y (lvarV a) (lvarV a); binOp .neq 191 (lvarV a) (lvarV a)) = some (.bool false) :=
  neq_lvar (fs := fs191) (by kernel_rfl) (by kernel_rfl) (by kernel_rfl) (by kernel_rfl) (by kernel_rfl) (by kernel_rfl) a x y
theorem neq191s (h : H) (x y : Operand) (a : LVar) : binOf TT h .neq 191 x y (some (lvarV a)) (some (lvarV a)) = vresG h (pureRun Tryz.prog (do eqGuard .neq 191 x y (lvarV a) (lvarV a); binOp .neq 191 (lvarV a) (lvarV a))) := by kernel_rfl
@[simp] theorem neq191 (h : H) (x y : Operand) (a : LVar) : binOf TT h .neq 191 x y (some (lvarV a)) (some (lvarV a)) = .val (.bool false) h := by
  rw [neq191s, neq191e]; rfl
end Go.Proofs.YtkdfgoimgcegfaaGreatDoor
/- Types and places of proof states. -/
namespace Go.Proofs.YtkdfgoimgcegfaaGreatDoor
open Go Go.Am Go.Proofs Go.Am.Sym Go.Am.Eu
set_option maxRecDepth 10000
@[simp] theorem TT.u31 : TT.under 31 = some (.slice 64) := by kernel_rfl
@[simp] theorem TT.u32 : TT.under 32 = some (.slice 130) := by kernel_rfl
@[simp] theorem TT.u33 : TT.under 33 = some (.slice 133) := by kernel_rfl
@[simp] theorem TT.u36 : TT.under 36 = some (.slice 58) := by kernel_rfl
theorem s64 : Am.size TT 64 = some 12 := by kernel_rfl
theorem s130 : Am.size TT 130 = some 12 := by kernel_rfl
theorem s133 : Am.size TT 133 = some 4 := by kernel_rfl
theorem s58 : Am.size TT 58 = some 8 := by kernel_rfl
theorem s35 : Am.size TT 35 = some 4 := by kernel_rfl
theorem s38 : Am.size TT 38 = some 16 := by kernel_rfl
theorem agg64 : Am.isAgg TT 64 = some true := by kernel_rfl
theorem agg130 : Am.isAgg TT 130 = some true := by kernel_rfl
theorem agg133 : Am.isAgg TT 133 = some true := by kernel_rfl
theorem agg58 : Am.isAgg TT 58 = some true := by kernel_rfl
theorem agg35 : Am.isAgg TT 35 = some true := by kernel_rfl
theorem agg38 : Am.isAgg TT 38 = some true := by kernel_rfl
theorem agg31 : Am.isAgg TT 31 = some false := by kernel_rfl
theorem agg32 : Am.isAgg TT 32 = some false := by kernel_rfl
theorem agg33 : Am.isAgg TT 33 = some false := by kernel_rfl
theorem agg36 : Am.isAgg TT 36 = some false := by kernel_rfl
theorem p31 (c : List Value) (off : Nat) : partOf TT 31 c off = c[off]? := part_one agg31 c off
theorem p32 (c : List Value) (off : Nat) : partOf TT 32 c off = c[off]? := part_one agg32 c off
theorem p33 (c : List Value) (off : Nat) : partOf TT 33 c off = c[off]? := part_one agg33 c off
theorem p36 (c : List Value) (off : Nat) : partOf TT 36 c off = c[off]? := part_one agg36 c off
section
variable (h : H) (b o : Nat) (e : Value)
@[simp] theorem fa_35_0 : fieldAddrOf TT h 35 0 (some (.pointer (some ⟨b, o, none⟩))) = .val (.pointer (some ⟨b, o + 0, none⟩)) h := by kernel_rfl
@[simp] theorem fa_35_1 : fieldAddrOf TT h 35 1 (some (.pointer (some ⟨b, o, none⟩))) = .val (.pointer (some ⟨b, o + 1, none⟩)) h := by kernel_rfl
@[simp] theorem fa_35_2 : fieldAddrOf TT h 35 2 (some (.pointer (some ⟨b, o, none⟩))) = .val (.pointer (some ⟨b, o + 2, none⟩)) h := by kernel_rfl
@[simp] theorem fa_35_3 : fieldAddrOf TT h 35 3 (some (.pointer (some ⟨b, o, none⟩))) = .val (.pointer (some ⟨b, o + 3, none⟩)) h := by kernel_rfl
@[simp] theorem fa_38_0 : fieldAddrOf TT h 38 0 (some (.pointer (some ⟨b, o, none⟩))) = .val (.pointer (some ⟨b, o + 0, none⟩)) h := by kernel_rfl
@[simp] theorem fa_38_1 : fieldAddrOf TT h 38 1 (some (.pointer (some ⟨b, o, none⟩))) = .val (.pointer (some ⟨b, o + 1, none⟩)) h := by kernel_rfl
@[simp] theorem fa_38_2 : fieldAddrOf TT h 38 2 (some (.pointer (some ⟨b, o, none⟩))) = .val (.pointer (some ⟨b, o + 5, none⟩)) h := by kernel_rfl
@[simp] theorem fa_38_3 : fieldAddrOf TT h 38 3 (some (.pointer (some ⟨b, o, none⟩))) = .val (.pointer (some ⟨b, o + 6, none⟩)) h := by kernel_rfl
@[simp] theorem fa_38_4 : fieldAddrOf TT h 38 4 (some (.pointer (some ⟨b, o, none⟩))) = .val (.pointer (some ⟨b, o + 11, none⟩)) h := by kernel_rfl
@[simp] theorem fa_64_0 : fieldAddrOf TT h 64 0 (some (.pointer (some ⟨b, o, none⟩))) = .val (.pointer (some ⟨b, o + 0, none⟩)) h := by kernel_rfl
@[simp] theorem fa_64_1 : fieldAddrOf TT h 64 1 (some (.pointer (some ⟨b, o, none⟩))) = .val (.pointer (some ⟨b, o + 5, none⟩)) h := by kernel_rfl
@[simp] theorem fa_64_2 : fieldAddrOf TT h 64 2 (some (.pointer (some ⟨b, o, none⟩))) = .val (.pointer (some ⟨b, o + 6, none⟩)) h := by kernel_rfl
@[simp] theorem fa_64_3 : fieldAddrOf TT h 64 3 (some (.pointer (some ⟨b, o, none⟩))) = .val (.pointer (some ⟨b, o + 11, none⟩)) h := by kernel_rfl
@[simp] theorem fa_130_0 : fieldAddrOf TT h 130 0 (some (.pointer (some ⟨b, o, none⟩))) = .val (.pointer (some ⟨b, o + 0, none⟩)) h := by kernel_rfl
@[simp] theorem fa_130_1 : fieldAddrOf TT h 130 1 (some (.pointer (some ⟨b, o, none⟩))) = .val (.pointer (some ⟨b, o + 1, none⟩)) h := by kernel_rfl
@[simp] theorem fa_130_2 : fieldAddrOf TT h 130 2 (some (.pointer (some ⟨b, o, none⟩))) = .val (.pointer (some ⟨b, o + 6, none⟩)) h := by kernel_rfl
@[simp] theorem fa_130_3 : fieldAddrOf TT h 130 3 (some (.pointer (some ⟨b, o, none⟩))) = .val (.pointer (some ⟨b, o + 11, none⟩)) h := by kernel_rfl
@[simp] theorem fd_58_0 : fieldAddrOf TT h 58 0 (some (dptr e o)) = .val (dptr e (o + 0)) h := by kernel_rfl
@[simp] theorem fd_58_1 : fieldAddrOf TT h 58 1 (some (dptr e o)) = .val (dptr e (o + 1)) h := by kernel_rfl
@[simp] theorem fd_58_2 : fieldAddrOf TT h 58 2 (some (dptr e o)) = .val (dptr e (o + 2)) h := by kernel_rfl
@[simp] theorem fd_58_3 : fieldAddrOf TT h 58 3 (some (dptr e o)) = .val (dptr e (o + 3)) h := by kernel_rfl
@[simp] theorem fd_133_0 : fieldAddrOf TT h 133 0 (some (dptr e o)) = .val (dptr e (o + 0)) h := by kernel_rfl
@[simp] theorem fd_133_1 : fieldAddrOf TT h 133 1 (some (dptr e o)) = .val (dptr e (o + 2)) h := by kernel_rfl
end
@[simp] theorem idx_metas {h : H} {l : List Meta} {k : IntKind} {i : Nat} (hi : i < l.length) : indexAddrOf TT h (some (.slice 64)) (some (metasV l)) (some (.int k (i : Int))) = .val (dptr (metaV l[i]) 0) h :=
  indexAddr_data (e := metaV l[i]) s64 hi (by simp [hi]) rfl
@[simp] theorem idx_eqns {h : H} {l : List Eqn} {k : IntKind} {i : Nat} (hi : i < l.length) : indexAddrOf TT h (some (.slice 130)) (some (eqnsV l)) (some (.int k (i : Int))) = .val (dptr (eqnV l[i]) 0) h :=
  indexAddr_data (e := eqnV l[i]) s130 hi (by simp [hi]) rfl
@[simp] theorem idx_bounds {h : H} {l : List Bound} {k : IntKind} {i : Nat} (hi : i < l.length) : indexAddrOf TT h (some (.slice 133)) (some (boundsV l)) (some (.int k (i : Int))) = .val (dptr (boundV l[i]) 0) h :=
  indexAddr_data (e := boundV l[i]) s133 hi (by simp [hi]) rfl
@[simp] theorem idx_goals {h : H} {l : List Goal} {k : IntKind} {i : Nat} (hi : i < l.length) : indexAddrOf TT h (some (.slice 58)) (some (goalsV l)) (some (.int k (i : Int))) = .val (dptr (goalV l[i]) 0) h :=
  indexAddr_data (e := goalV l[i]) s58 hi (by simp [hi]) rfl
@[simp] theorem len_metas (h : H) (e : TypeId) (l : List Meta) : lenBy h (some (.slice e)) (metasV l) = .val (.int .i64 l.length) h := rfl
@[simp] theorem len_eqns (h : H) (e : TypeId) (l : List Eqn) : lenBy h (some (.slice e)) (eqnsV l) = .val (.int .i64 l.length) h := rfl
@[simp] theorem len_bounds (h : H) (e : TypeId) (l : List Bound) : lenBy h (some (.slice e)) (boundsV l) = .val (.int .i64 l.length) h := rfl
@[simp] theorem len_goals (h : H) (e : TypeId) (l : List Goal) : lenBy h (some (.slice e)) (goalsV l) = .val (.int .i64 l.length) h := rfl
theorem p26_at (t : Term) (a b : List Value) : partOf TT 26 (a ++ (tc t ++ b)) a.length = some (tv t) := by
  rw [part_agg agg26 s26, cut_some (by simp), tv_eq]
  simp [aggOf]
@[simp] theorem p64_meta (x : Meta) : partOf TT 64 (cellsL (metaV x)) 0 = some (metaV x) := by rw [part_agg agg64 s64]; rfl
@[simp] theorem p26_meta0 (x : Meta) : partOf TT 26 (cellsL (metaV x)) 0 = some (tv x.type) := p26_at x.type [] _
@[simp] theorem p4_meta5 (x : Meta) : partOf TT 4 (cellsL (metaV x)) 5 = some (.bool x.known) := by rw [p4]; rfl
@[simp] theorem p26_meta6 (x : Meta) : partOf TT 26 (cellsL (metaV x)) 6 = some (tv x.value) := p26_at x.value (tc x.type ++ [.bool x.known]) [.bool x.cls]
@[simp] theorem p4_meta11 (x : Meta) : partOf TT 4 (cellsL (metaV x)) 11 = some (.bool x.cls) := by rw [p4]; rfl
@[simp] theorem p130_eqn (x : Eqn) : partOf TT 130 (cellsL (eqnV x)) 0 = some (eqnV x) := by rw [part_agg agg130 s130]; rfl
@[simp] theorem p24_eqn0 (x : Eqn) : partOf TT 24 (cellsL (eqnV x)) 0 = some (termsV x.ctx) := by rw [p24]; rfl
@[simp] theorem p26_eqn1 (x : Eqn) : partOf TT 26 (cellsL (eqnV x)) 1 = some (tv x.left) := p26_at x.left [termsV x.ctx] _
@[simp] theorem p26_eqn6 (x : Eqn) : partOf TT 26 (cellsL (eqnV x)) 6 = some (tv x.right) := p26_at x.right (termsV x.ctx :: tc x.left) _
@[simp] theorem p4_eqn11 (x : Eqn) : partOf TT 4 (cellsL (eqnV x)) 11 = some (.bool x.sub) := by rw [p4]; rfl
@[simp] theorem p86_bound0 (x : Bound) : partOf TT 86 (cellsL (boundV x)) 0 = some (lvlV x.low) := by rw [part_agg agg86 s86]; rfl
@[simp] theorem p86_bound2 (x : Bound) : partOf TT 86 (cellsL (boundV x)) 2 = some (lvlV x.high) := by rw [part_agg agg86 s86]; rfl
@[simp] theorem p3_goal0 (x : Goal) : partOf TT 3 (cellsL (goalV x)) 0 = some (i64 x.mid) := by rw [p3]; rfl
@[simp] theorem p22_goal1 (x : Goal) : partOf TT 22 (cellsL (goalV x)) 1 = some (strsV x.names) := by rw [p22]; rfl
@[simp] theorem p24_goal2 (x : Goal) : partOf TT 24 (cellsL (goalV x)) 2 = some (termsV x.ctx) := by rw [p24]; rfl
@[simp] theorem p26_goal3 (x : Goal) : partOf TT 26 (cellsL (goalV x)) 3 = some (tv x.target) := by
  have := p26_at x.target [i64 x.mid, strsV x.names, termsV x.ctx] []
  rw [List.append_nil] at this; exact this
@[simp] theorem p31_store0 (x : Store) : partOf TT 31 (cellsL (storeV x)) 0 = some (metasV x.metas) := by rw [p31]; rfl
@[simp] theorem p32_store1 (x : Store) : partOf TT 32 (cellsL (storeV x)) 1 = some (eqnsV x.eqns) := by rw [p32]; rfl
@[simp] theorem p33_store2 (x : Store) : partOf TT 33 (cellsL (storeV x)) 2 = some (boundsV x.bounds) := by rw [p33]; rfl
@[simp] theorem p3_store3 (x : Store) : partOf TT 3 (cellsL (storeV x)) 3 = some (i64 x.levels) := by rw [p3]; rfl
@[simp] theorem p22_proof0 (x : Proof) : partOf TT 22 (cellsL (proofV x)) 0 = some (strsV x.levels) := by rw [p22]; rfl
@[simp] theorem p35_proof1 (x : Proof) : partOf TT 35 (cellsL (proofV x)) 1 = some (storeV x.store) := by rw [part_agg agg35 s35]; rfl
@[simp] theorem p36_proof5 (x : Proof) : partOf TT 36 (cellsL (proofV x)) 5 = some (goalsV x.goals) := by rw [p36]; rfl
@[simp] theorem p26_proof6 (x : Proof) : partOf TT 26 (cellsL (proofV x)) 6 = some (tv x.type) := p26_at x.type (strsV x.levels :: (sc x.store ++ [goalsV x.goals])) _
@[simp] theorem p26_proof11 (x : Proof) : partOf TT 26 (cellsL (proofV x)) 11 = some (tv x.root) := by
  have := p26_at x.root (strsV x.levels :: (sc x.store ++ (goalsV x.goals :: tc x.type))) []
  rw [List.append_nil] at this; exact this
end Go.Proofs.YtkdfgoimgcegfaaGreatDoor
