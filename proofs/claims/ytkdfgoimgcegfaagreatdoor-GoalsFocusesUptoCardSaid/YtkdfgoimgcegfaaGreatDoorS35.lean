/- The program of this seat: its table. -/
import Derived.Test.YtkdfgoimgcegfaaGreatDoorAmSym
import Derived.KernelRfl
import Derived.Test.YtkdfgoimgcegfaaGreatDoorProg
import Derived.Test.YtkdfgoimgcegfaaGreatDoorD31
set_option linter.unusedSectionVars false
set_option linter.unusedSimpArgs false
set_option linter.unusedVariables false
namespace Go.Proofs.YtkdfgoimgcegfaaGreatDoor
open Go Go.Am Go.Proofs
noncomputable def TT : Tab := tabOf Tryz.prog
theorem tok : TabOK TT Tryz.prog := tabOK_tabOf (by kernel_rfl)
end Go.Proofs.YtkdfgoimgcegfaaGreatDoor
/- F35size -/
namespace Go.Proofs.YtkdfgoimgcegfaaGreatDoor
open Go Go.Am Go.Proofs Go.Am.Sym Go.Am.Eu
set_option maxRecDepth 10000
theorem TT.under24 : TT.under 24 = some (.slice 26) := by kernel_rfl
noncomputable def f5B : Code := piece Tryz.f7 [true,true,false,true,false,false]
theorem f5_split : Tryz.f7.body = some (.seq (piece Tryz.f7 [false]) (.seq (piece Tryz.f7 [true,false]) (.seq (.seq (piece Tryz.f7 [true,true,false,false]) (.block 0 (.loop f5B))) (piece Tryz.f7 [true,true,true])))) := rfl
theorem fa_26_4 (h : H) (b o : Nat) : fieldAddrOf TT h 26 4 (some (.pointer (some ⟨b, o, none⟩))) = .val (.pointer (some ⟨b, o + 4, none⟩)) h := by kernel_rfl
theorem agg24 : Am.isAgg TT 24 = some false := by kernel_rfl
theorem agg26 : Am.isAgg TT 26 = some true := by kernel_rfl
theorem s26 : Am.size TT 26 = some 5 := by kernel_rfl
theorem p24 (c : List Value) (off : Nat) : partOf TT 24 c off = c[off]? := part_one agg24 c off
theorem p26_tv (t : Term) : partOf TT 26 (cellsL (tv t)) 0 = some (tv t) := by rw [part_agg agg26 s26, tv_eq]; rfl
theorem idx_terms {h : H} {l : List Term} {k : IntKind} {i : Nat} (hi : i < l.length) : indexAddrOf TT h (some (.slice 26)) (some (termsV l)) (some (.int k (i : Int))) = .val (dptr (tv l[i]) 0) h :=
  indexAddr_data (e := tv l[i]) s26 hi (by simp [hi]) (by rw [tv_eq]; rfl)
theorem len_terms (h : H) (e : TypeId) (l : List Term) : lenBy h (some (.slice e)) (termsV l) = .val (.int .i64 l.length) h := rfl
theorem cells_tv (t : Term) : cellsL (tv t) = [i64 t.kind, i64 t.index, .string t.name, lvlsV t.levels, termsV t.kids] := by rw [tv_eq]; rfl
def big : Nat := 1099511627776
theorem wrapN {n : Nat} (h : n ≤ big) : IntKind.i64.wrap (n : Int) = n := by
  unfold big at h
  simp [IntKind.wrap, IntKind.bits, IntKind.signed]; omega
section
variable {ev : Task → Ans} {t : Term} {i acc : Nat} {tm : Tr Value} {h : H} (hb : h.base = 0) (h0 : h.get 0 = some (.cells (cellsL (tv t)) 26 false))
    (t1 : tm.get 1 = some (.pointer (some ⟨0, 0, none⟩))) (t3 : tm.get 3 = some (i64 acc)) (t4 : tm.get 4 = some (i64 i))
include hb h0 t1 t3 t4
theorem f5_iter (hi : i < t.kids.length) (hev : ∀ y, y ∈ t.kids → ∀ h, ev (call0 7 [tv y] h) = .ret (i64 (nodes y)) h none) (hw : acc + nodes t.kids[i] ≤ big) (hw1 : i + 1 ≤ big) :
    ∃ tm', runCode TT ev ⟨7, none⟩ f5B ⟨tm, [], h, none⟩ = .code .normal ⟨tm', [], h, none⟩ ∧ tm'.get 1 = some (.pointer (some ⟨0, 0, none⟩)) ∧ tm'.get 3 = some (i64 (acc + nodes t.kids[i] : Nat)) ∧ tm'.get 4 = some (i64 (i + 1 : Nat)) := by
  have e1 := wrapN hw
  have e2 := wrapN hw1
  simp at e1 e2
  rw [cells_tv] at h0
  simp [f5B, piece, sel, sub, Tryz.f7, t1, t3, t4, fa_26_4, h0, hb, p24, p26_tv, len_terms, idx_terms, TT.under24, hi, hev, e1, e2]
theorem f5_end (hi : t.kids.length ≤ i) :
    ∃ tm', runCode TT ev ⟨7, none⟩ f5B ⟨tm, [], h, none⟩ = .code (.exit 0) ⟨tm', [], h, none⟩ ∧ tm'.get 3 = some (i64 acc) := by
  rw [cells_tv] at h0
  have hi' : ¬ i < t.kids.length := by omega
  simp [f5B, piece, sel, sub, Tryz.f7, t1, t3, t4, fa_26_4, h0, hb, p24, len_terms, TT.under24, hi']
end
theorem TT.func5' : TT.func 7 = some Tryz.f7 := by kernel_rfl
theorem nodes_fn : FnC TT Tryz.prog 7 (fun t => nodes t ≤ big) (fun t => [tv t]) (fun t => i64 (nodes t)) := by
  refine fnC_rec nodes fun t hs hrec h => ?_
  obtain ⟨C, hC, hH⟩ : ∃ C, ConS TT Tryz.prog C ∧ Has C 7 (fun y => nodes y < nodes t ∧ nodes y ≤ big) (fun y => [tv y]) (fun y => i64 (nodes y)) :=
    ⟨_, addC_sound noC_sound hrec, Has.add fun x y e => by simp at e; rw [tv_inj e]⟩
  have hsz : 1 + nodesL t.kids = nodes t := by cases t; rw [nodes_mk]; rfl
  have hkl := kids_length t
  refine fnC_of (v := i64 (nodes t)) (h1 := H.empty.new (.cells (cellsL (tv t)) 26 false)) tok C hC (.cons (tv_pure t) .nil) (t.kids.length + 1) ?_ (.pure (.ground rfl)) h
  refine fn_run TT.func5' f5_split rfl (vs := [i64 (nodes t)]) ?_
  simp [piece, sel, sub, Tryz.f7]
  generalize hX : runCode TT _ _ (.loop f5B) _ = X
  refine Exists.elim (loop_end hX 0
    (fun j s => ∃ i acc tm, j = t.kids.length - i ∧ s = ⟨tm, [], H.empty.new (.cells (cellsL (tv t)) 26 false), none⟩ ∧ acc + nodesL (t.kids.drop i) = nodes t ∧ i ≤ t.kids.length ∧ tm.get 1 = some (.pointer (some ⟨0, 0, none⟩)) ∧ tm.get 3 = some (i64 acc) ∧ tm.get 4 = some (i64 i))
    (fun a => ∃ tm, a = .code (.exit 0) ⟨tm, [], H.empty.new (.cells (cellsL (tv t)) 26 false), none⟩ ∧ tm.get 3 = some (i64 (nodes t)))
    t.kids.length ⟨0, 1, _, rfl, rfl, by simpa using hsz, by omega, by simp, by simp, by simp⟩ (by omega) ?_) ?_
  · rintro j s m ⟨i, acc, tm, rfl, rfl, ha, hi, t1, t3, t4⟩ -
    by_cases hlt : i < t.kids.length
    · have hd : nodesL (t.kids.drop i) = nodes t.kids[i] + nodesL (t.kids.drop (i + 1)) := by rw [List.drop_eq_getElem_cons hlt, nodesL_cons]
      obtain ⟨tm', e, k1, k3, k4⟩ := f5_iter (ev := evK TT C m) (t := t) (h := H.empty.new (.cells (cellsL (tv t)) 26 false)) (by simp) (by simp) t1 t3 t4 hlt (fun y hy m => hH.ev _ ⟨nodes_kid hy, by have := nodes_kid hy; omega⟩ m) (by omega) (by omega)
      exact .inl ⟨_, _, e, by omega, i + 1, acc + nodes t.kids[i], tm', rfl, rfl, by omega, by omega, k1, k3, k4⟩
    · obtain ⟨tm', e, k⟩ := f5_end (ev := evK TT C m) (t := t) (h := H.empty.new (.cells (cellsL (tv t)) 26 false)) (by simp) (by simp) t1 t3 t4 (by omega)
      refine .inr ⟨_, _, e, by simp, tm', rfl, ?_⟩
      rw [k]
      rw [List.drop_eq_nil_of_le (by omega)] at ha
      simp [nodesL] at ha
      rw [ha]
  · rintro tm ⟨rfl, k⟩
    simp [k]
end Go.Proofs.YtkdfgoimgcegfaaGreatDoor
