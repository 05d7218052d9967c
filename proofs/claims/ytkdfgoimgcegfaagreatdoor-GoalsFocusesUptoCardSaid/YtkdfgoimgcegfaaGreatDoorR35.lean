/- Layer 35: what is read of the arguments, as data. -/
import Derived.Test.YtkdfgoimgcegfaaGreatDoorAmStr
import Derived.Test.YtkdfgoimgcegfaaGreatDoorT35b
import Derived.Test.YtkdfgoimgcegfaaGreatDoorC35
import Derived.ChangeArms
import Derived.Test.YtkdfgoimgcegfaaGreatDoorRows
import Derived.Test.YtkdfgoimgcegfaaGreatDoorG35n
set_option linter.unusedSectionVars false
set_option linter.unusedSimpArgs false
set_option linter.unusedVariables false
namespace Go.Proofs.YtkdfgoimgcegfaaGreatDoor
open Go Go.Am Go.Proofs Go.Am.Sym Go.Am.Eu
set_option maxRecDepth 10000
theorem mapM_nil' : True := trivial
section
variable {H : Type} {enc : TypeId × Value → H} {P : Program} {w : World} {spare : Nat → Bool} {held : Bool}
theorem bulkAll_take (l : List (DataW H)) : ∀ (k : Nat) (d : DataW H), l[k]? = some d → Rows.uptoBulkAll (l.take (k + 1)) = Rows.uptoBulkAll (l.take k) + Rows.uptoBulk d := by
  induction l with
  | nil => intro k d h; simp at h
  | cons x l ih =>
    intro k d h
    cases k with
    | zero => simp at h; subst h; simp [Rows.uptoBulkAll]
    | succ k =>
      have := ih k d (by simpa using h)
      simp only [List.take_succ_cons, Rows.uptoBulkAll, this]; omega
theorem slice_read {α : Type} {encV : α → Value} {sz1 : α → Nat} {e t : TypeId} (ht : P.underlying t = some (.slice e)) (hsz : 0 < P.cellsOf e) {fuel : Nat}
    (elem : ∀ n, n < fuel → ∀ cs x, DataW.trod enc P w 0 spare held n e cs = some x → ∃ a v', v'.cells.toList = cs ∧ VR (imM w) (encV a) v' ∧ sz1 a ≤ Rows.uptoBulk x.1)
    {cs : List Value} {x : DataW H × List MemPlace} (h : DataW.trod enc P w 0 spare held fuel t cs = some x) :
    ∃ (l : List α) (v' : Value), cs = [v'] ∧ VR (imM w) (dsl (l.map encV) 0 l.length []) v' ∧ (l.map sz1).sum + 1 ≤ Rows.uptoBulk x.1 := by
  rcases DataW.trod_slice ht h with ⟨rfl, rfl⟩ | ⟨a, len, cap, elems, rest, n, rfl, rfl, rfl, _, hlc, _, hel, hat, _, _⟩
  · exact ⟨[], _, rfl, .data0 (fun _ => rfl) (.inl rfl), by simp [Rows.uptoBulk]⟩
  · by_cases h0 : len = 0
    · subst h0
      exact ⟨[], _, rfl, .data0 (fun h => by cases h) (.inl rfl), by simp [Rows.uptoBulk]⟩
    · have hat2 : ∀ i, i < len → ∃ ci y, w.cells? 0 (a.add (i * P.cellsOf e)) (P.cellsOf e) = some ci ∧ DataW.trod enc P w 0 spare held n e ci = some y ∧ elems[i]? = some y := by
        intro i hi
        have h1 := hat i hi
        have h2 : elems[i]? = some elems[i] := List.getElem?_eq_getElem (by omega)
        rw [h2] at h1
        cases hc : w.cells? 0 (a.add (i * P.cellsOf e)) (P.cellsOf e) with
        | none => rw [hc] at h1; cases h1
        | some ci => rw [hc] at h1; exact ⟨ci, elems[i], rfl, h1, h2⟩
      obtain ⟨b, off, spot⟩ := a
      obtain ⟨arr, et, fz, hw, hsp, hoff⟩ : ∃ arr et fz, w.heap[b]? = some (.cells arr et fz) ∧ spot = none ∧ off < arr.size := by
        obtain ⟨ci, y, hc, _, _⟩ := hat2 0 (by omega)
        obtain ⟨_, hl, hcell⟩ := World.cells?_some hc
        have hz := hcell 0 hsz
        have e0 : ((⟨b, off, spot⟩ : Addr).add (0 * P.cellsOf e)).add 0 = ⟨b, off, spot⟩ := by simp [Addr.add]
        rw [e0] at hz
        have hs : ci[0]? = some ci[0] := List.getElem?_eq_getElem (by omega)
        rw [hs] at hz
        unfold World.cell? at hz
        split at hz
        · rename_i c e1 f1 hw
          split at hz
          · cases hz
          · rename_i hn
            refine ⟨c, e1, f1, hw, by cases spot <;> simp_all, ?_⟩
            exact (Array.getElem?_eq_some_iff.1 hz).1
        · cases hz
      subst hsp
      have row : ∀ i, i < len → ∀ ci, w.cells? 0 ((⟨b, off, none⟩ : Addr).add (i * P.cellsOf e)) (P.cellsOf e) = some ci → ci = ((arr.toList.drop off).drop (i * P.cellsOf e)).take (P.cellsOf e) := by
        intro i hi ci hc
        obtain ⟨_, hl, hcell⟩ := World.cells?_some hc
        apply List.ext_getElem?
        intro j
        by_cases hj : j < P.cellsOf e
        · have := hcell j hj
          rw [addr_add, addr_add] at this
          rw [← this]
          unfold World.cell?
          rw [hw]
          rw [List.getElem?_take_of_lt hj, List.getElem?_drop, List.getElem?_drop]
          simp
          congr 1
          omega
        · rw [List.getElem?_eq_none (by omega), List.getElem?_eq_none (by simp; omega)]
      have key : ∀ k, k ≤ len → ∃ (l : List α) (vs' : List Value), l.length = k ∧ LR (imM w) (l.map encV) vs' ∧ (∀ v ∈ vs', v.cells.toList.length = P.cellsOf e) ∧ vs'.flatMap (·.cells.toList) = (arr.toList.drop off).take (k * P.cellsOf e) ∧
          (l.map sz1).sum ≤ Rows.uptoBulkAll ((elems.map (·.1)).take k) := by
        intro k
        induction k with
        | zero => intro _; exact ⟨[], [], rfl, .nil, by simp, by simp, by simp⟩
        | succ k ih =>
          intro hk
          obtain ⟨l, vs', h1, h2, h3, h4, h5⟩ := ih (by omega)
          obtain ⟨ci, y, hc, htr, hy⟩ := hat2 k (by omega)
          obtain ⟨a1, v', q1, q2, q3⟩ := elem n (by omega) ci y htr
          have hci := row k (by omega) ci hc
          refine ⟨l ++ [a1], vs' ++ [v'], by simp [h1], ?_, ?_, ?_, ?_⟩
          · rw [List.map_append]; exact h2.append (.cons q2 .nil)
          · intro v hv
            rcases List.mem_append.1 hv with hv | hv
            · exact h3 v hv
            · simp at hv; subst hv; rw [q1]; exact (World.cells?_some hc).2.1
          · rw [List.flatMap_append, h4, Nat.succ_mul, List.take_add, ← hci, ← q1]; simp
          · rw [bulkAll_take _ k y.1 (by simp [hy])]; simp; omega
      obtain ⟨l, vs', h1, h2, h3, h4, h5⟩ := key len (Nat.le_refl _)
      refine ⟨l, _, rfl, ?_, ?_⟩
      · have hi : (imM w).im b = some (arr.toList.take off ++ (vs'.flatMap (·.cells.toList) ++ (arr.toList.drop off).drop (len * P.cellsOf e))) := by
          rw [imM_eq hw, h4, List.take_append_drop, List.take_append_drop]
        have := VR.data (m := imM w) (es := l.map encV) (off := 0) (len := l.length) (p := #[]) (caps := []) (cap' := cap) hi h2 h3 (by simp) (by omega) (.inl rfl)
        have e1 : (arr.toList.take off).length + 0 * P.cellsOf e = off := by simp; omega
        rw [e1, h1] at this
        rw [h1]; exact this
      · rw [List.take_of_length_le (by simp; omega)] at h5
        simp only [Rows.uptoBulk]
        omega
end
/-! ### The types -/
def structFs : Option TypeDesc → Array Field
  | some (.struct fs) => fs
  | _ => #[]
noncomputable def fs26 : Array Field := structFs (Tryz.prog.underlying 26)
noncomputable def fs62 : Array Field := structFs (Tryz.prog.underlying 86)
noncomputable def fs91 : Array Field := structFs (Tryz.prog.underlying 191)
theorem u26' : Tryz.prog.underlying 26 = some (.struct fs26) := by kernel_rfl
theorem u86' : Tryz.prog.underlying 86 = some (.struct fs62) := by kernel_rfl
theorem u191' : Tryz.prog.underlying 191 = some (.struct fs91) := by kernel_rfl
theorem u3' : Tryz.prog.underlying 3 = some (.int .i64) := by kernel_rfl
theorem u4' : Tryz.prog.underlying 4 = some .bool := by kernel_rfl
theorem u9' : Tryz.prog.underlying 9 = some .string := by kernel_rfl
theorem u22' : Tryz.prog.underlying 22 = some (.slice 9) := by kernel_rfl
theorem u23' : Tryz.prog.underlying 23 = some (.slice 86) := by kernel_rfl
theorem u24' : Tryz.prog.underlying 24 = some (.slice 26) := by kernel_rfl
theorem u84' : Tryz.prog.underlying 84 = some (.slice 191) := by kernel_rfl
theorem c3' : Tryz.prog.cellsOf 3 = 1 := by kernel_rfl
theorem c9' : Tryz.prog.cellsOf 9 = 1 := by kernel_rfl
theorem c23' : Tryz.prog.cellsOf 23 = 1 := by kernel_rfl
theorem c24' : Tryz.prog.cellsOf 24 = 1 := by kernel_rfl
theorem c60' : Tryz.prog.cellsOf 84 = 1 := by kernel_rfl
theorem c26' : Tryz.prog.cellsOf 26 = 5 := by kernel_rfl
theorem c62' : Tryz.prog.cellsOf 86 = 2 := by kernel_rfl
theorem c91' : Tryz.prog.cellsOf 191 = 2 := by kernel_rfl
theorem f91' : fs91.toList.map (fun f => (f.type, f.offset)) = [(3, 0), (3, 1)] := by kernel_rfl
theorem f62' : fs62.toList.map (fun f => (f.type, f.offset)) = [(3, 0), (84, 1)] := by kernel_rfl
theorem f26' : fs26.toList.map (fun f => (f.type, f.offset)) = [(3, 0), (3, 1), (9, 2), (23, 3), (24, 4)] := by kernel_rfl
section
variable {H : Type} {enc : TypeId × Value → H} {w : World} {spare : Nat → Bool} {held : Bool}
/-- A struct whose parts are one cell each. -/
theorem struct_read {t : TypeId} {fs : Array Field} (ht : Tryz.prog.underlying t = some (.struct fs)) {fuel : Nat} {cs : List Value} {x : DataW H × List MemPlace} (h : DataW.trod enc Tryz.prog w 0 spare held fuel t cs = some x) {l : List (Nat × Nat)} (hl : fs.toList.map (fun f => (f.type, f.offset)) = l) :
    ∃ (xs : List (DataW H × List MemPlace)) (n : Nat), fuel = n + 1 ∧ x.1 = .agg (xs.map (·.1)) ∧ cs.length = Tryz.prog.cellsOf t ∧ xs.length = l.length ∧
      ∀ (i ty off : Nat), l[i]? = some (ty, off) → DataW.trod enc Tryz.prog w 0 spare held n ty ((cs.drop off).take (Tryz.prog.cellsOf ty)) = xs[i]? := by
  obtain ⟨xs, n, h1, rfl, h3, h4, h5⟩ := DataW.trod_struct ht h
  refine ⟨xs, n, h1, rfl, h3, by rw [h4, ← hl]; simp, fun i ty off hi => ?_⟩
  rw [← hl, List.getElem?_map] at hi
  cases hf : fs.toList[i]? with
  | none => rw [hf] at hi; cases hi
  | some f =>
    rw [hf] at hi
    simp at hi
    have := h5 i f (by rw [← hf]; simp)
    rw [hi.1, hi.2] at this
    exact this
theorem int_read {n : Nat} {c : Value} {y : DataW H × List MemPlace} (h : DataW.trod enc Tryz.prog w 0 spare held n 3 [c] = some y) : ∃ k, c = i64 k ∧ Rows.uptoBulk y.1 = 1 := by
  obtain ⟨k, h1, rfl, _⟩ := DataW.trod_int u3' h
  injection h1 with h1
  exact ⟨k, h1, rfl⟩
theorem str_read {n : Nat} {cs : List Value} {y : DataW H × List MemPlace} (h : DataW.trod enc Tryz.prog w 0 spare held n 9 cs = some y) : ∃ s : ByteArray, cs = [.string s] ∧ Rows.uptoBulk y.1 = s.size + 1 := by
  obtain ⟨s, h1, rfl, _⟩ := DataW.trod_string u9' h
  exact ⟨s, h1, rfl⟩
theorem lvar_read {n : Nat} {cs : List Value} {x : DataW H × List MemPlace} (h : DataW.trod enc Tryz.prog w 0 spare held n 191 cs = some x) : ∃ (a : LVar) (v' : Value), v'.cells.toList = cs ∧ VR (imM w) (lvarV a) v' ∧ 1 ≤ Rows.uptoBulk x.1 := by
  obtain ⟨xs, m, _, hx, hl, hxl, hf⟩ := struct_read u191' h f91'
  rw [c91'] at hl
  match cs, hl, xs, hxl with
  | [c0, c1], _, [y0, y1], _ =>
    have h0 := hf 0 3 0 rfl
    have h1 := hf 1 3 1 rfl
    simp [c3'] at h0 h1
    obtain ⟨k0, rfl, _⟩ := int_read h0
    obtain ⟨k1, rfl, _⟩ := int_read h1
    exact ⟨⟨k0, k1⟩, .agg ⟨[i64 k0, i64 k1]⟩, rfl, .agg (.cons (.int ..) (.cons (.int ..) .nil)), by rw [hx]; simp [Rows.uptoBulk]⟩
theorem sum_one {α : Type} : ∀ l : List α, (l.map fun _ => 1).sum = l.length
  | [] => rfl
  | x :: l => by rw [List.map_cons, List.sum_cons, sum_one l, List.length_cons]; omega
theorem lvl_read {n : Nat} {cs : List Value} {x : DataW H × List MemPlace} (h : DataW.trod enc Tryz.prog w 0 spare held n 86 cs = some x) : ∃ (a : Lvl) (v' : Value), v'.cells.toList = cs ∧ VR (imM w) (lvlV a) v' ∧ 1 + a.vars.length ≤ Rows.uptoBulk x.1 := by
  obtain ⟨xs, m, _, hx, hl, hxl, hf⟩ := struct_read u86' h f62'
  rw [c62'] at hl
  match cs, hl, xs, hxl with
  | [c0, c1], _, [y0, y1], _ =>
    have h0 := hf 0 3 0 rfl
    have h1 := hf 1 84 1 rfl
    simp [c3', c60'] at h0 h1
    obtain ⟨k0, rfl, e0⟩ := int_read h0
    obtain ⟨vars, v', e, hv, hs⟩ := slice_read (α := LVar) (encV := lvarV) (sz1 := fun _ => 1) u84' (by rw [c91']; omega) (fun n _ cs x h => lvar_read h) h1
    injection e with e
    subst e
    rw [sum_one] at hs
    exact ⟨⟨k0, vars⟩, .agg ⟨[i64 k0, c1]⟩, rfl, .agg (.cons (.int ..) (.cons hv .nil)), by rw [hx]; simp only [List.map_cons, List.map_nil, Rows.uptoBulk, Rows.uptoBulkAll]; omega⟩
theorem wtL_sum : ∀ l : List Term, wtL l = (l.map wt).sum
  | [] => rfl
  | t :: l => by rw [wtL_cons, wtL_sum l]; simp
theorem term_read : ∀ (k n : Nat), n < k → ∀ (cs : List Value) (x : DataW H × List MemPlace), DataW.trod enc Tryz.prog w 0 spare held n 26 cs = some x → ∃ (a : Term) (v' : Value), v'.cells.toList = cs ∧ VR (imM w) (tv a) v' ∧ wt a ≤ Rows.uptoBulk x.1 := by
  intro k
  induction k with
  | zero => intro n h; omega
  | succ k ih =>
    intro n hn cs x h
    obtain ⟨xs, m, hm, hx, hl, hxl, hf⟩ := struct_read u26' h f26'
    rw [c26'] at hl
    match cs, hl, xs, hxl with
    | [c0, c1, c2, c3, c4], _, [y0, y1, y2, y3, y4], _ =>
      have h0 := hf 0 3 0 rfl
      have h1 := hf 1 3 1 rfl
      have h2 := hf 2 9 2 rfl
      have h3 := hf 3 23 3 rfl
      have h4 := hf 4 24 4 rfl
      simp [c3', c9', c23', c24'] at h0 h1 h2 h3 h4
      obtain ⟨k0, rfl, e0⟩ := int_read h0
      obtain ⟨k1, rfl, e1⟩ := int_read h1
      obtain ⟨s, e, e2⟩ := str_read h2
      injection e with e
      subst e
      obtain ⟨ls, v3, e, hv3, hs3⟩ := slice_read (α := Lvl) (encV := lvlV) (sz1 := fun x => 1 + x.vars.length) u23' (by rw [c62']; omega) (fun n _ cs x h => lvl_read h) h3
      injection e with e
      subst e
      obtain ⟨ks, v4, e, hv4, hs4⟩ := slice_read (α := Term) (encV := tv) (sz1 := wt) u24' (by rw [c26']; omega) (fun j hj cs x h => ih j (by omega) cs x h) h4
      injection e with e
      subst e
      refine ⟨.mk k0 k1 s ls ks, .agg ⟨[i64 k0, i64 k1, .string s, c3, c4]⟩, rfl, ?_, ?_⟩
      · rw [tv_mk]; exact .agg (.cons (.int ..) (.cons (.int ..) (.cons (.string ..) (.cons hv3 (.cons hv4 .nil)))))
      · rw [hx, wt_mk, wtL_sum]
        simp only [List.map_cons, List.map_nil, Rows.uptoBulk, Rows.uptoBulkAll, lvlsN]
        omega
theorem strs_read {n : Nat} {cs : List Value} {x : DataW H × List MemPlace} (h : DataW.trod enc Tryz.prog w 0 spare held n 22 cs = some x) : ∃ (l : List ByteArray) (v' : Value), cs = [v'] ∧ VR (imM w) (strsV l) v' ∧ l.length ≤ Rows.uptoBulk x.1 := by
  obtain ⟨l, v', e, hv, hs⟩ := slice_read (α := ByteArray) (encV := Value.string) (sz1 := fun _ => 1) u22' (by rw [c9']; omega) (fun n _ cs x h => by
    obtain ⟨s, e, e2⟩ := str_read h
    exact ⟨s, .string s, by rw [e]; rfl, .string s, by omega⟩) h
  rw [sum_one] at hs
  exact ⟨l, v', e, hv, by omega⟩
end
end Go.Proofs.YtkdfgoimgcegfaaGreatDoor
/- Layer 35: what is read of a proof state, as data. -/
namespace Go.Am.Eu
open Go Go.Am
def mSz (x : Meta) : Nat := 1 + (wt x.type + wt x.value)
def eSz (x : Eqn) : Nat := 1 + (wtL x.ctx + (wt x.left + wt x.right))
def bSz (x : Bound) : Nat := 1 + (x.low.vars.length + x.high.vars.length)
def gSz (x : Goal) : Nat := 1 + (x.names.length + (wtL x.ctx + wt x.target))
def sSz (x : Store) : Nat := (x.metas.map mSz).sum + ((x.eqns.map eSz).sum + (x.bounds.map bSz).sum)
def pSz (x : Proof) : Nat := x.levels.length + (sSz x.store + ((x.goals.map gSz).sum + (wt x.type + wt x.root)))
theorem sum_len {α : Type} {f : α → Nat} (hf : ∀ x, 1 ≤ f x) : ∀ l : List α, l.length ≤ (l.map f).sum
  | [] => by simp
  | x :: l => by have := sum_len hf l; have := hf x; simp only [List.map_cons, List.sum_cons, List.length_cons]; omega
theorem sum_mem {α : Type} {f : α → Nat} : ∀ {l : List α} {x : α}, x ∈ l → f x ≤ (l.map f).sum
  | y :: l, x, h => by
    simp only [List.map_cons, List.sum_cons]
    rcases List.mem_cons.1 h with rfl | h
    · omega
    · have := sum_mem (f := f) h; omega
end Go.Am.Eu
namespace Go.Proofs.YtkdfgoimgcegfaaGreatDoor
open Go Go.Am Go.Proofs Go.Am.Sym Go.Am.Eu
set_option maxRecDepth 10000
theorem proofOk_of {p : Proof} (h : pSz p < lim) : proofOk p := by
  unfold pSz sSz at h
  have m1 := sum_len (f := mSz) (fun x => by unfold mSz; omega) p.store.metas
  have e1 := sum_len (f := eSz) (fun x => by unfold eSz; omega) p.store.eqns
  have b1 := sum_len (f := bSz) (fun x => by unfold bSz; omega) p.store.bounds
  have g1 := sum_len (f := gSz) (fun x => by unfold gSz; omega) p.goals
  refine ⟨by omega, ⟨⟨by omega, fun y hy => ?_⟩, ⟨by omega, fun y hy => ?_⟩, ⟨by omega, fun y hy => ?_⟩⟩, ⟨by omega, fun y hy => ?_⟩, by omega, by omega⟩
  · have := sum_mem (f := mSz) hy; unfold mSz at this h; omega
  · have := sum_mem (f := eSz) hy; unfold eSz at this h; constructor <;> omega
  · have := sum_mem (f := bSz) hy; unfold bSz at this h; constructor <;> omega
  · have := sum_mem (f := gSz) hy; unfold gSz at this h; constructor <;> omega
noncomputable def fs38 : Array Field := structFs (Tryz.prog.underlying 38)
noncomputable def fs35 : Array Field := structFs (Tryz.prog.underlying 35)
noncomputable def fs58 : Array Field := structFs (Tryz.prog.underlying 58)
noncomputable def fs64 : Array Field := structFs (Tryz.prog.underlying 64)
noncomputable def fs130 : Array Field := structFs (Tryz.prog.underlying 130)
noncomputable def fs133 : Array Field := structFs (Tryz.prog.underlying 133)
theorem u38' : Tryz.prog.underlying 38 = some (.struct fs38) := by kernel_rfl
theorem u35' : Tryz.prog.underlying 35 = some (.struct fs35) := by kernel_rfl
theorem u58' : Tryz.prog.underlying 58 = some (.struct fs58) := by kernel_rfl
theorem u64' : Tryz.prog.underlying 64 = some (.struct fs64) := by kernel_rfl
theorem u130' : Tryz.prog.underlying 130 = some (.struct fs130) := by kernel_rfl
theorem u133' : Tryz.prog.underlying 133 = some (.struct fs133) := by kernel_rfl
theorem u31' : Tryz.prog.underlying 31 = some (.slice 64) := by kernel_rfl
theorem u32' : Tryz.prog.underlying 32 = some (.slice 130) := by kernel_rfl
theorem u33' : Tryz.prog.underlying 33 = some (.slice 133) := by kernel_rfl
theorem u36' : Tryz.prog.underlying 36 = some (.slice 58) := by kernel_rfl
theorem c4' : Tryz.prog.cellsOf 4 = 1 := by kernel_rfl
theorem c22' : Tryz.prog.cellsOf 22 = 1 := by kernel_rfl
theorem c31' : Tryz.prog.cellsOf 31 = 1 := by kernel_rfl
theorem c32' : Tryz.prog.cellsOf 32 = 1 := by kernel_rfl
theorem c33' : Tryz.prog.cellsOf 33 = 1 := by kernel_rfl
theorem c36' : Tryz.prog.cellsOf 36 = 1 := by kernel_rfl
theorem c38' : Tryz.prog.cellsOf 38 = 16 := by kernel_rfl
theorem c35' : Tryz.prog.cellsOf 35 = 4 := by kernel_rfl
theorem c58' : Tryz.prog.cellsOf 58 = 8 := by kernel_rfl
theorem c64' : Tryz.prog.cellsOf 64 = 12 := by kernel_rfl
theorem c130' : Tryz.prog.cellsOf 130 = 12 := by kernel_rfl
theorem c133' : Tryz.prog.cellsOf 133 = 4 := by kernel_rfl
theorem f38' : fs38.toList.map (fun f => (f.type, f.offset)) = [(22, 0), (35, 1), (36, 5), (26, 6), (26, 11)] := by kernel_rfl
theorem f35' : fs35.toList.map (fun f => (f.type, f.offset)) = [(31, 0), (32, 1), (33, 2), (3, 3)] := by kernel_rfl
theorem f58' : fs58.toList.map (fun f => (f.type, f.offset)) = [(3, 0), (22, 1), (24, 2), (26, 3)] := by kernel_rfl
theorem f64' : fs64.toList.map (fun f => (f.type, f.offset)) = [(26, 0), (4, 5), (26, 6), (4, 11)] := by kernel_rfl
theorem f130' : fs130.toList.map (fun f => (f.type, f.offset)) = [(24, 0), (26, 1), (26, 6), (4, 11)] := by kernel_rfl
theorem f133' : fs133.toList.map (fun f => (f.type, f.offset)) = [(86, 0), (86, 2)] := by kernel_rfl
section
variable {H : Type} {enc : TypeId × Value → H} {w : World} {spare : Nat → Bool} {held : Bool}
theorem bool_read {n : Nat} {c : Value} {y : DataW H × List MemPlace} (h : DataW.trod enc Tryz.prog w 0 spare held n 4 [c] = some y) : ∃ k, c = .bool k := by
  obtain ⟨k, h1, _⟩ := DataW.trod_bool u4' h
  injection h1 with h1
  exact ⟨k, h1⟩
theorem tc_read {n : Nat} {cs : List Value} {x : DataW H × List MemPlace} (h : DataW.trod enc Tryz.prog w 0 spare held n 26 cs = some x) : ∃ a : Term, LR (imM w) (tc a) cs ∧ wt a ≤ Rows.uptoBulk x.1 := by
  obtain ⟨t, v', e, ht, htw⟩ := term_read (n + 1) n (by omega) _ _ h
  rw [tv_eq] at ht
  cases ht with
  | agg hl => subst e; exact ⟨t, hl, htw⟩
theorem lc_read {n : Nat} {cs : List Value} {x : DataW H × List MemPlace} (h : DataW.trod enc Tryz.prog w 0 spare held n 86 cs = some x) : ∃ a : Lvl, LR (imM w) (lc a) cs ∧ a.vars.length ≤ Rows.uptoBulk x.1 := by
  obtain ⟨t, v', e, ht, htw⟩ := lvl_read h
  cases ht with
  | agg hl => subst e; exact ⟨t, hl, by omega⟩
theorem terms_read {n : Nat} {c : Value} {x : DataW H × List MemPlace} (h : DataW.trod enc Tryz.prog w 0 spare held n 24 [c] = some x) : ∃ l : List Term, VR (imM w) (termsV l) c ∧ wtL l ≤ Rows.uptoBulk x.1 := by
  obtain ⟨l, v, e, hv, hs⟩ := slice_read (α := Term) (encV := tv) (sz1 := wt) u24' (by rw [c26']; omega) (fun j hj cs x h => term_read (j + 1) j (by omega) cs x h) h
  injection e with e
  subst e
  exact ⟨l, hv, by rw [wtL_sum]; omega⟩
theorem strs1_read {n : Nat} {c : Value} {x : DataW H × List MemPlace} (h : DataW.trod enc Tryz.prog w 0 spare held n 22 [c] = some x) : ∃ l : List ByteArray, VR (imM w) (strsV l) c ∧ l.length ≤ Rows.uptoBulk x.1 := by
  obtain ⟨l, v, e, hv, hs⟩ := strs_read h
  injection e with e
  subst e
  exact ⟨l, hv, hs⟩
theorem bulk_cons (a : DataW H) (l : List (DataW H)) : Rows.uptoBulkAll (a :: l) = Rows.uptoBulk a + Rows.uptoBulkAll l := rfl
theorem meta_read {n : Nat} {cs : List Value} {x : DataW H × List MemPlace} (h : DataW.trod enc Tryz.prog w 0 spare held n 64 cs = some x) : ∃ (a : Meta) (v' : Value), v'.cells.toList = cs ∧ VR (imM w) (metaV a) v' ∧ mSz a ≤ Rows.uptoBulk x.1 := by
  obtain ⟨xs, m, _, hx, hl, hxl, hf⟩ := struct_read u64' h f64'
  rw [c64'] at hl
  match cs, hl, xs, hxl with
  | [a0, a1, a2, a3, a4, b, c0, c1, c2, c3, c4, d], _, [y0, y1, y2, y3], _ =>
    have h0 := hf 0 26 0 rfl
    have h1 := hf 1 4 5 rfl
    have h2 := hf 2 26 6 rfl
    have h3 := hf 3 4 11 rfl
    simp [c26', c4'] at h0 h1 h2 h3
    obtain ⟨t, ht, e0⟩ := tc_read h0
    obtain ⟨k1, rfl⟩ := bool_read h1
    obtain ⟨s, hs, e2⟩ := tc_read h2
    obtain ⟨k2, rfl⟩ := bool_read h3
    refine ⟨⟨t, k1, s, k2⟩, .agg ⟨[a0, a1, a2, a3, a4, .bool k1, c0, c1, c2, c3, c4, .bool k2]⟩, rfl, .agg (LR.append ht (.cons (.bool _) (LR.append hs (.cons (.bool _) .nil)))), ?_⟩
    rw [hx]
    simp only [List.map_cons, List.map_nil, Rows.uptoBulk, Rows.uptoBulkAll, mSz]
    omega
theorem eqn_read {n : Nat} {cs : List Value} {x : DataW H × List MemPlace} (h : DataW.trod enc Tryz.prog w 0 spare held n 130 cs = some x) : ∃ (a : Eqn) (v' : Value), v'.cells.toList = cs ∧ VR (imM w) (eqnV a) v' ∧ eSz a ≤ Rows.uptoBulk x.1 := by
  obtain ⟨xs, m, _, hx, hl, hxl, hf⟩ := struct_read u130' h f130'
  rw [c130'] at hl
  match cs, hl, xs, hxl with
  | [b, a0, a1, a2, a3, a4, c0, c1, c2, c3, c4, d], _, [y0, y1, y2, y3], _ =>
    have h0 := hf 0 24 0 rfl
    have h1 := hf 1 26 1 rfl
    have h2 := hf 2 26 6 rfl
    have h3 := hf 3 4 11 rfl
    simp [c26', c4', c24'] at h0 h1 h2 h3
    obtain ⟨l, hl, e0⟩ := terms_read h0
    obtain ⟨t, ht, e1⟩ := tc_read h1
    obtain ⟨s, hs, e2⟩ := tc_read h2
    obtain ⟨k2, rfl⟩ := bool_read h3
    refine ⟨⟨l, t, s, k2⟩, .agg ⟨[b, a0, a1, a2, a3, a4, c0, c1, c2, c3, c4, .bool k2]⟩, rfl, .agg (.cons hl (LR.append ht (LR.append hs (.cons (.bool _) .nil)))), ?_⟩
    rw [hx]
    simp only [List.map_cons, List.map_nil, Rows.uptoBulk, Rows.uptoBulkAll, eSz]
    omega
theorem bound_read {n : Nat} {cs : List Value} {x : DataW H × List MemPlace} (h : DataW.trod enc Tryz.prog w 0 spare held n 133 cs = some x) : ∃ (a : Bound) (v' : Value), v'.cells.toList = cs ∧ VR (imM w) (boundV a) v' ∧ bSz a ≤ Rows.uptoBulk x.1 := by
  obtain ⟨xs, m, _, hx, hl, hxl, hf⟩ := struct_read u133' h f133'
  rw [c133'] at hl
  match cs, hl, xs, hxl with
  | [a0, a1, b0, b1], _, [y0, y1], _ =>
    have h0 := hf 0 86 0 rfl
    have h1 := hf 1 86 2 rfl
    simp [c62'] at h0 h1
    obtain ⟨t, ht, e0⟩ := lc_read h0
    obtain ⟨s, hs, e1⟩ := lc_read h1
    refine ⟨⟨t, s⟩, .agg ⟨[a0, a1, b0, b1]⟩, rfl, .agg (LR.append ht hs), ?_⟩
    rw [hx]
    simp only [List.map_cons, List.map_nil, Rows.uptoBulk, Rows.uptoBulkAll, bSz]
    omega
theorem goal_read {n : Nat} {cs : List Value} {x : DataW H × List MemPlace} (h : DataW.trod enc Tryz.prog w 0 spare held n 58 cs = some x) : ∃ (a : Goal) (v' : Value), v'.cells.toList = cs ∧ VR (imM w) (goalV a) v' ∧ gSz a ≤ Rows.uptoBulk x.1 := by
  obtain ⟨xs, m, _, hx, hl, hxl, hf⟩ := struct_read u58' h f58'
  rw [c58'] at hl
  match cs, hl, xs, hxl with
  | [a, b, c, t0, t1, t2, t3, t4], _, [y0, y1, y2, y3], _ =>
    have h0 := hf 0 3 0 rfl
    have h1 := hf 1 22 1 rfl
    have h2 := hf 2 24 2 rfl
    have h3 := hf 3 26 3 rfl
    simp [c26', c3', c24', c22'] at h0 h1 h2 h3
    obtain ⟨k, rfl, e0⟩ := int_read h0
    obtain ⟨ns, hn, e1⟩ := strs1_read h1
    obtain ⟨l, hl, e2⟩ := terms_read h2
    obtain ⟨t, ht, e3⟩ := tc_read h3
    refine ⟨⟨k, ns, l, t⟩, .agg ⟨[i64 k, b, c, t0, t1, t2, t3, t4]⟩, rfl, .agg (.cons (.int ..) (.cons hn (.cons hl ht))), ?_⟩
    rw [hx]
    simp only [List.map_cons, List.map_nil, Rows.uptoBulk, Rows.uptoBulkAll, gSz]
    omega
theorem store_read {n : Nat} {cs : List Value} {x : DataW H × List MemPlace} (h : DataW.trod enc Tryz.prog w 0 spare held n 35 cs = some x) : ∃ a : Store, LR (imM w) (sc a) cs ∧ sSz a ≤ Rows.uptoBulk x.1 := by
  obtain ⟨xs, m, _, hx, hl, hxl, hf⟩ := struct_read u35' h f35'
  rw [c35'] at hl
  match cs, hl, xs, hxl with
  | [a, b, c, d], _, [y0, y1, y2, y3], _ =>
    have h0 := hf 0 31 0 rfl
    have h1 := hf 1 32 1 rfl
    have h2 := hf 2 33 2 rfl
    have h3 := hf 3 3 3 rfl
    simp [c31', c32', c33', c3'] at h0 h1 h2 h3
    obtain ⟨ms, v0, e, hm, s0⟩ := slice_read (α := Meta) (encV := metaV) (sz1 := mSz) u31' (by rw [c64']; omega) (fun _ _ cs x h => meta_read h) h0
    injection e with e
    subst e
    obtain ⟨es, v1, e, he, s1⟩ := slice_read (α := Eqn) (encV := eqnV) (sz1 := eSz) u32' (by rw [c130']; omega) (fun _ _ cs x h => eqn_read h) h1
    injection e with e
    subst e
    obtain ⟨bs, v2, e, hb, s2⟩ := slice_read (α := Bound) (encV := boundV) (sz1 := bSz) u33' (by rw [c133']; omega) (fun _ _ cs x h => bound_read h) h2
    injection e with e
    subst e
    obtain ⟨k, rfl, e3⟩ := int_read h3
    refine ⟨⟨ms, es, bs, k⟩, .cons hm (.cons he (.cons hb (.cons (.int ..) .nil))), ?_⟩
    rw [hx]
    simp only [List.map_cons, List.map_nil, Rows.uptoBulk, Rows.uptoBulkAll, sSz]
    omega
theorem proof_read {n : Nat} {cs : List Value} {x : DataW H × List MemPlace} (h : DataW.trod enc Tryz.prog w 0 spare held n 38 cs = some x) : ∃ a : Proof, LR (imM w) (pc a) cs ∧ pSz a ≤ Rows.uptoBulk x.1 := by
  obtain ⟨xs, m, _, hx, hl, hxl, hf⟩ := struct_read u38' h f38'
  rw [c38'] at hl
  match cs, hl, xs, hxl with
  | [a, b0, b1, b2, b3, c, d0, d1, d2, d3, d4, e0, e1, e2, e3, e4], _, [y0, y1, y2, y3, y4], _ =>
    have h0 := hf 0 22 0 rfl
    have h1 := hf 1 35 1 rfl
    have h2 := hf 2 36 5 rfl
    have h3 := hf 3 26 6 rfl
    have h4 := hf 4 26 11 rfl
    simp [c22', c35', c36', c26'] at h0 h1 h2 h3 h4
    obtain ⟨ns, hn, s0⟩ := strs1_read h0
    obtain ⟨st, hst, s1⟩ := store_read h1
    obtain ⟨gs, v1, e, hg, s2⟩ := slice_read (α := Goal) (encV := goalV) (sz1 := gSz) u36' (by rw [c58']; omega) (fun _ _ cs x h => goal_read h) h2
    injection e with e
    subst e
    obtain ⟨t, ht, s3⟩ := tc_read h3
    obtain ⟨r, hr, s4⟩ := tc_read h4
    refine ⟨⟨ns, st, gs, t, r⟩, .cons hn (LR.append hst (.cons hg (LR.append ht hr))), ?_⟩
    rw [hx]
    simp only [List.map_cons, List.map_nil, Rows.uptoBulk, Rows.uptoBulkAll, pSz]
    omega
end
end Go.Proofs.YtkdfgoimgcegfaaGreatDoor
