/- Layer 35: the metavariables of a term: the search in what was found. -/
import Derived.Test.YtkdfgoimgcegfaaGreatDoorG35i
import Derived.Test.YtkdfgoimgcegfaaGreatDoorE35k
import Derived.Test.YtkdfgoimgcegfaaGreatDoorT35d
set_option linter.unusedSectionVars false
set_option linter.unusedSimpArgs false
set_option linter.unusedVariables false
namespace Go.Proofs.YtkdfgoimgcegfaaGreatDoor
open Go Go.Am Go.Proofs Go.Am.Sym Go.Am.Eu
set_option maxRecDepth 10000
theorem TT.f133 : TT.func 133 = some Tryz.f133 := by kernel_rfl
theorem TT.f189 : TT.func 189 = some Tryz.f189 := by kernel_rfl
noncomputable def f189A : Code := piece Tryz.f189 [true,false,true,false]
noncomputable def f189S : Code := piece Tryz.f189 [true,false,true,false,false,true,false,false]
noncomputable def f189L : Code := piece Tryz.f189 [true,true,false,true,false,false]
theorem f189_split : Tryz.f189.body = some (.seq (piece Tryz.f189 [false]) (.seq (.seq (piece Tryz.f189 [true,false,false]) (.cond (.tmp 9) f189A .skip)) (.seq (.seq (piece Tryz.f189 [true,true,false,false]) (.block 2 (.loop f189L))) (piece Tryz.f189 [true,true,true])))) := rfl
theorem f189A_split : f189A = .seq (.seq (piece Tryz.f189 [true,false,true,false,false,false]) (.block 0 (.loop f189S))) (piece Tryz.f189 [true,false,true,false,true]) := rfl
/-- While the term is walked: its block is h0.next; h0 is the memory at the start, v0 the slice at the start. -/
structure MsSt (t : Term) (h0 : H) (v0 : Value) (L : List Int) (tm : Tr Value) (h : H) : Prop where
  base : h.base = 0
  next : h0.next < h.next
  low : ∀ b, blkOf v0 = some b → b < h0.next
  kept : Kept v0 h0 h
  cell : h.get h0.next = some (.cells (cellsL (tv t)) 26 false)
  t3 : tm.get 3 = some (.pointer (some ⟨h0.next, 0, none⟩))
  t0 : ∃ v, tm.get 0 = some v ∧ IntA v h L ∧ Young v0 (h0.next + 1) v
theorem move {v0 v v' : Value} {h0 h h' : H} {o : AObj} (hlow : ∀ b, blkOf v0 = some b → b < h0.next) (hn : h0.next < h.next) (hk : Kept v0 h0 h) (hc : h.get h0.next = some o) (hy : Young v0 (h0.next + 1) v)
    (hk' : Kept v h h') (hy' : Young v h.next v') : h'.base = 0 ∧ h0.next < h'.next ∧ Kept v0 h0 h' ∧ h'.get h0.next = some o ∧ Young v0 (h0.next + 1) v' := by
  obtain ⟨a1, a2, a3⟩ := hk
  obtain ⟨b1, b2, b3⟩ := hk'
  refine ⟨b1, by omega, ⟨b1, by omega, fun j hj hne => ?_⟩, ?_, fun b hb => ?_⟩
  · rw [b3 j (by omega) (fun e => by
      rcases hy j e with q | q
      · exact hne q
      · omega), a3 j hj hne]
  · rw [b3 _ hn (fun e => by
      rcases hy _ e with q | q
      · have := hlow _ q; omega
      · omega), hc]
  · rcases hy' b hb with q | q
    · exact hy b q
    · right; omega
section
variable {ev : Task → Ans} {t : Term} {v0 : Value} {L : List Int} {tm : Tr Value} {h h0 : H}
theorem idx_mem {b n i : Nat} (h : H) (hi : i < n) : indexAddrOf TT h (some (.slice 3)) (some (.slice (some ⟨b, 0, none⟩) n n)) (some (i64 (i : Nat))) = .val (.pointer (some ⟨b, i, none⟩)) h := by
  show indexAddrBy h ⟨b, 0, none⟩ i n (Am.size TT 3) = _
  rw [s3i]
  show cond (Nat.ble (Nat.succ i) n) (Res.val (.pointer (some ((⟨b, 0, none⟩ : Addr).add (i * 1)))) h) Res.fail = _
  rw [Nat.ble_eq_true_of_le (show Nat.succ i ≤ n from hi), addr_add]
  simp
theorem f189S_iter {i : Nat} (st : MsSt t h0 v0 L tm h) (t5 : tm.get 5 = some (i64 (i : Nat))) (hi : i < L.length) (hw1 : i + 1 ≤ big) :
    EndsAs (fun tm' h' => MsSt t h0 v0 L tm' h' ∧ tm'.get 5 = some (i64 (i + 1 : Nat))) (fun tm' h' => h' = h ∧ ∃ v, tm'.get 4 = some v ∧ IntA v h L ∧ Young v0 (h0.next + 1) v) (fun _ _ _ => False)
      (runCode TT ev ⟨189, none⟩ f189S ⟨tm, [], h, none⟩) := by
  obtain ⟨hb, hn, hlow, hk, hc, t3, v, t0, hv, hy⟩ := st
  have e2 := wrapN hw1
  simp at e2
  rcases hv with ⟨rfl, rfl⟩ | ⟨b, hbn, rfl, hg⟩
  · simp at hi
  · have hix := fun h => idx_mem (b := b) (i := i) h hi
    have hp : partOf TT 3 (L.map i64) i = some (i64 L[i]) := by rw [p3]; simp [hi]
    by_cases c : L[i] = t.index
    · simp [f189S, piece, sel, sub, Tryz.f189, t0, t3, t5, hb, hi, e2, hix, hg, hc, hbn, hn, hp, c, condK_if]
      exact ⟨.inr ⟨b, hbn, rfl, hg⟩, hy⟩
    · simp [f189S, piece, sel, sub, Tryz.f189, t0, t3, t5, hb, hi, e2, hix, hg, hc, hbn, hn, hp, c, condK_if]
      exact ⟨hb, hn, hlow, hk, hc, by simp [t3], _, by simp [t0], .inr ⟨b, hbn, rfl, hg⟩, hy⟩
theorem f189S_end {i : Nat} (st : MsSt t h0 v0 L tm h) (t5 : tm.get 5 = some (i64 (i : Nat))) (hi : L.length ≤ i) :
    EndsAs (fun _ _ => False) (fun _ _ => False) (fun j tm' h' => j = 0 ∧ MsSt t h0 v0 L tm' h') (runCode TT ev ⟨189, none⟩ f189S ⟨tm, [], h, none⟩) := by
  obtain ⟨hb, hn, hlow, hk, hc, t3, v, t0, hv, hy⟩ := st
  have hi' : ¬ i < L.length := by omega
  have hl := hv.lenBy h 3
  simp [f189S, piece, sel, sub, Tryz.f189, t0, t3, t5, hl, hi', condK_if]
  exact ⟨hb, hn, hlow, hk, hc, by simp [t3], v, by simp [t0], hv, hy⟩
/-- What is found is appended. -/
theorem f189_app (st : MsSt t h0 v0 L tm h) (hL : L.length + 1 ≤ 1073741824) :
    EndsAs (fun tm' h' => ∃ L', L'.length ≤ L.length + 1 ∧ MsSt t h0 v0 L' tm' h') (fun _ _ => False) (fun _ _ _ => False) (runCode TT ev ⟨189, none⟩ (piece Tryz.f189 [true,false,true,false,true]) ⟨tm, [], h, none⟩) := by
  obtain ⟨hb, hn, hlow, hk, hc, t3, v, t0, hv, hy⟩ := st
  obtain ⟨v', h', e, hv', hk', hy'⟩ := (hv.keep (h' := h.new (.cells [i64 t.index] 3 false)) (by simp) (fun j hj => by
      have := hv.blk hj
      have q : ¬ j = h.next := by omega
      simp [q])).append (B := h.next) (x := t.index) (e := 3) (g := false) (by simp [hb]) hL (by simp)
  obtain ⟨k1, k2, k3⟩ := hk'
  obtain ⟨m1, m2, m3, m4, m5⟩ := move (v' := v') (h' := h') hlow hn hk hc hy ⟨k1, by simp at k2; omega, fun j hj hne => by
      have q : ¬ j = h.next := by omega
      rw [k3 j (by simp; omega) hne]; simp [q]⟩ (fun b hb => (hy' b hb).imp id fun q => by simp at q; omega)
  have hl : lenOf (.slice (some ⟨h.next, 0, none⟩) 1 1) = some 1 := rfl
  simp [piece, sel, sub, Tryz.f189, t0, t3, hb, hc, hl, e]
  exact ⟨L ++ [t.index], by simp, m1, m2, hlow, m3, m4, by simp [t3], v', by simp, hv', m5⟩
end
end Go.Proofs.YtkdfgoimgcegfaaGreatDoor
/- Layer 35: the metavariables of a term: they are answered. -/
namespace Go.Proofs.YtkdfgoimgcegfaaGreatDoor
open Go Go.Am Go.Proofs Go.Am.Sym Go.Am.Eu
set_option maxRecDepth 10000
theorem wtL_drop : ∀ (l : List Term) (i : Nat) (hi : i < l.length), wtL (l.drop i) = wt l[i] + wtL (l.drop (i + 1))
  | [], _, h => by simp at h
  | t :: l, 0, _ => by simp [wtL_cons]
  | t :: l, i + 1, h => by simpa using wtL_drop l i (by simpa using h)
/-- What a call of metas comes to. -/
def MsRun (C : Con) (t : Term) : Prop := ∀ (v : Value) (L : List Int) (h : H) (m : Nat), h.base = 0 → IntA v h L → L.length + wt t ≤ 1073741824 → L.length + 4 * (wt t * wt t) + 4 ≤ m →
  ∃ v' L' h', evK TT C (m + 1) (call0 189 [v, tv t] h) = .ret v' h' none ∧ IntA v' h' L' ∧ L'.length ≤ L.length + wt t ∧ Kept v h h' ∧ Young v h.next v'
section
variable {C : Con} {t : Term} {v0 : Value} {L : List Int} {tm : Tr Value} {h h0 : H}
theorem f189L_iter {i m : Nat} (hi : i < t.kids.length) (hrec : MsRun C t.kids[i]) (st : MsSt t h0 v0 L tm h) (t6 : tm.get 6 = some (i64 (i : Nat))) (hw1 : i + 1 ≤ big) (hL : L.length + wt t.kids[i] ≤ 1073741824) (hm : L.length + 4 * (wt t.kids[i] * wt t.kids[i]) + 5 ≤ m) :
    EndsAs (fun tm' h' => ∃ L', L'.length ≤ L.length + wt t.kids[i] ∧ MsSt t h0 v0 L' tm' h' ∧ tm'.get 6 = some (i64 (i + 1 : Nat))) (fun _ _ => False) (fun _ _ _ => False)
      (runCode TT (evK TT C m) ⟨189, none⟩ f189L ⟨tm, [], h, none⟩) := by
  obtain ⟨hb, hn, hlow, hk, hc, t3, v, t0, hv, hy⟩ := st
  have e2 := wrapN hw1
  simp at e2
  obtain ⟨m, rfl⟩ : ∃ m', m = m' + 1 := ⟨m - 1, by omega⟩
  obtain ⟨v', L', h', e, hv', hL', hk', hy'⟩ := hrec v L h m hb hv hL (by omega)
  obtain ⟨m1, m2, m3, m4, m5⟩ := move (v' := v') (h' := h') hlow hn hk hc hy hk' hy'
  simp [f189L, piece, sel, sub, Tryz.f189, t0, t3, t6, hb, hc, hi, e2, e, m1, condK_if]
  exact ⟨L', hL', m1, m2, hlow, m3, m4, by simp [t3], v', by simp, hv', m5⟩
theorem f189L_end {i m : Nat} (st : MsSt t h0 v0 L tm h) (t6 : tm.get 6 = some (i64 (i : Nat))) (hi : t.kids.length ≤ i) :
    EndsAs (fun _ _ => False) (fun _ _ => False) (fun j tm' h' => j = 2 ∧ MsSt t h0 v0 L tm' h') (runCode TT (evK TT C m) ⟨189, none⟩ f189L ⟨tm, [], h, none⟩) := by
  obtain ⟨hb, hn, hlow, hk, hc, t3, v, t0, hv, hy⟩ := st
  have hi' : ¬ i < t.kids.length := by omega
  simp [f189L, piece, sel, sub, Tryz.f189, t0, t3, t6, hb, hc, hi', condK_if]
  exact ⟨hb, hn, hlow, hk, hc, by simp [t3], v, by simp [t0], hv, hy⟩
/-- The way to the end. -/
def MsEnd (h0 : H) (v0 : Value) (n : Nat) (tm : Tr Value) (h : H) : Prop := ∃ v L, tm.get 4 = some v ∧ IntA v h L ∧ L.length ≤ n ∧ Kept v0 h0 h ∧ Young v0 h0.next v
theorem MsSt.fin {v : Value} (hn : h0.next < h.next) (hk : Kept v0 h0 h) (hv : IntA v h L) (hy : Young v0 (h0.next + 1) v) {n : Nat} (hL : L.length ≤ n) (t4 : tm.get 4 = some v) : MsEnd h0 v0 n tm h :=
  ⟨v, L, t4, hv, hL, hk, fun b hb => (hy b hb).imp id fun q => by omega⟩
/-- The search, and what is appended. -/
theorem f189A_run {m : Nat} (st : MsSt t h0 v0 L tm h) (hL : L.length + wt t ≤ 1073741824) (hm : L.length ≤ m) :
    EndsAs (fun tm' h' => ∃ L', L'.length ≤ L.length + 1 ∧ MsSt t h0 v0 L' tm' h') (MsEnd h0 v0 (L.length + wt t)) (fun _ _ _ => False) (runCode TT (evK TT C m) ⟨189, none⟩ f189A ⟨tm, [], h, none⟩) := by
  have hw : 1 ≤ wt t := by rw [wt_eq]; omega
  rw [f189A_split]
  have p0 : EndsAs (fun tm' h' => MsSt t h0 v0 L tm' h' ∧ tm'.get 5 = some (i64 (0 : Nat))) (fun _ _ => False) (fun _ _ _ => False) (runCode TT (evK TT C m) ⟨189, none⟩ (piece Tryz.f189 [true,false,true,false,false,false]) ⟨tm, [], h, none⟩) := by
    obtain ⟨hb, hn, hlow, hk, hc, t3, v, t0, hv, hy⟩ := st
    simp [piece, sel, sub, Tryz.f189]
    exact ⟨hb, hn, hlow, hk, hc, by simp [t3], v, by simp [t0], hv, hy⟩
  refine ends_seqC (N' := fun tm h => MsSt t h0 v0 L tm h) (ends_seqC (p0.mono (fun _ _ q => q) (fun _ _ q => q.elim) (fun _ _ _ q => q)) fun tm h q => ?_) fun tm h st => (f189_app st (by omega)).mono (fun _ _ q => q) (fun _ _ q => q.elim) (fun _ _ _ q => q)
  refine ends_loop 0 (fun j tm h => ∃ i, j = L.length - i ∧ i ≤ L.length ∧ MsSt t h0 v0 L tm h ∧ tm.get 5 = some (i64 (i : Nat))) L.length ⟨0, rfl, by omega, q.1, q.2⟩ (by omega) ?_
  rintro j tm h m ⟨i, rfl, hi, st, t5⟩ -
  have hb : i + 1 ≤ big := by unfold big; omega
  by_cases hlt : i < L.length
  · exact (f189S_iter st t5 hlt hb).mono (fun tm' h' q => ⟨_, by omega, i + 1, rfl, hlt, q⟩) (fun tm' h' q => by
      obtain ⟨rfl, v, t4, hv, hy⟩ := q
      exact MsSt.fin st.next st.kept hv hy (by omega) t4) (fun _ _ _ q => q.elim)
  · exact (f189S_end st t5 (by omega)).mono (fun _ _ q => q.elim) (fun _ _ q => q.elim) (fun _ _ _ q => q)
end
theorem sq_step {w k : Nat} (h : k + 1 ≤ w) : 4 * (k * k) + 2 * w + 1 ≤ 4 * (w * w) := by
  obtain ⟨d, rfl⟩ : ∃ d, w = k + 1 + d := ⟨w - (k + 1), by omega⟩
  have e : (k + 1 + d) * (k + 1 + d) = k * k + 2 * k + 1 + 2 * (k * d) + 2 * d + d * d := by
    simp only [Nat.add_mul, Nat.mul_add, Nat.one_mul, Nat.mul_one, Nat.mul_comm d k]; omega
  rw [e]; omega
theorem metas189 {C : Con} (hC : C 189 = fun _ _ => none) : ∀ (N : Nat) (t : Term), wt t ≤ N → MsRun C t := by
  intro N
  induction N with
  | zero => intro t ht; have := wt_eq t; omega
  | succ N ih =>
    intro t ht v0 L0 h0 m hb0 hv0 hL0 hm
    have hw := wt_eq t
    have hkl := wtL_len t.kids
    have hsq := sq_step (w := wt t) (k := wt t - 1) (by omega)
    generalize hK : (wt t - 1) * (wt t - 1) = K at hsq
    have key : EndsAs (fun _ _ => False) (MsEnd h0 v0 (L0.length + wt t)) (fun _ _ _ => False) (runCode TT (evK TT C m) ⟨189, none⟩ (.seq (piece Tryz.f189 [false]) (.seq (.seq (piece Tryz.f189 [true,false,false]) (.cond (.tmp 9) f189A .skip)) (.seq (.seq (piece Tryz.f189 [true,true,false,false]) (.block 2 (.loop f189L))) (piece Tryz.f189 [true,true,true])))) ⟨initT [v0, tv t] 0 .nil, [], h0, none⟩) := by
      have p0 : EndsAs (fun tm h => MsSt t h0 v0 L0 tm h) (fun _ _ => False) (fun _ _ _ => False) (runCode TT (evK TT C m) ⟨189, none⟩ (piece Tryz.f189 [false]) ⟨initT [v0, tv t] 0 .nil, [], h0, none⟩) := by
        simp [piece, sel, sub, Tryz.f189]
        refine ⟨by simp [hb0], by simp, fun b hb => hv0.blk hb, ⟨by simp [hb0], by simp, fun j hj _ => ?_⟩, by simp, by simp, v0, by simp, hv0.keep (by simp) fun j hj => ?_, fun b hb => .inl hb⟩
        · have q : ¬ j = h0.next := by omega
          simp [q]
        · have := hv0.blk hj
          have q : ¬ j = h0.next := by omega
          simp [q]
      have p1 : ∀ tm h, MsSt t h0 v0 L0 tm h → EndsAs (fun tm h => MsSt t h0 v0 L0 tm h ∧ tm.get 9 = some (.bool (decide (t.kind = 12)))) (fun _ _ => False) (fun _ _ _ => False) (runCode TT (evK TT C m) ⟨189, none⟩ (piece Tryz.f189 [true,false,false]) ⟨tm, [], h, none⟩) := by
        rintro tm h ⟨hb, hn, hlow, hk, hc, t3, v, t0, hv, hy⟩
        simp [piece, sel, sub, Tryz.f189, t3, hb, hc]
        exact ⟨hb, hn, hlow, hk, hc, by simp [t3], v, by simp [t0], hv, hy⟩
      have p2 : ∀ tm h, (MsSt t h0 v0 L0 tm h ∧ tm.get 9 = some (.bool (decide (t.kind = 12)))) → EndsAs (fun tm h => ∃ L, L.length ≤ L0.length + 1 ∧ MsSt t h0 v0 L tm h) (MsEnd h0 v0 (L0.length + wt t)) (fun _ _ _ => False) (runCode TT (evK TT C m) ⟨189, none⟩ (.cond (.tmp 9) f189A .skip) ⟨tm, [], h, none⟩) := by
        rintro tm h ⟨st, t9⟩
        by_cases c : t.kind = 12
        · have := f189A_run (C := C) (m := m) st hL0 (by omega)
          simp [t9, c]
          exact this
        · simp [t9, c]
          exact ⟨L0, by omega, st⟩
      have p3 : ∀ tm h, (∃ L, L.length ≤ L0.length + 1 ∧ MsSt t h0 v0 L tm h) → EndsAs (fun tm h => ∃ L, L.length ≤ L0.length + 1 ∧ MsSt t h0 v0 L tm h ∧ tm.get 6 = some (i64 (0 : Nat))) (fun _ _ => False) (fun _ _ _ => False) (runCode TT (evK TT C m) ⟨189, none⟩ (piece Tryz.f189 [true,true,false,false]) ⟨tm, [], h, none⟩) := by
        rintro tm h ⟨L, hL, hb, hn, hlow, hk, hc, t3, v, t0, hv, hy⟩
        simp [piece, sel, sub, Tryz.f189]
        exact ⟨L, hL, hb, hn, hlow, hk, hc, by simp [t3], v, by simp [t0], hv, hy⟩
      refine ends_seqC (p0.mono (fun _ _ q => q) (fun _ _ q => q.elim) (fun _ _ _ q => q)) fun tm h q => ends_seqC (ends_seqC ((p1 tm h q).mono (fun _ _ q => q) (fun _ _ q => q.elim) (fun _ _ _ q => q)) p2) fun tm h q =>
        ends_seqC (N' := fun tm h => ∃ L, L.length ≤ L0.length + wt t ∧ MsSt t h0 v0 L tm h) (ends_seqC ((p3 tm h q).mono (fun _ _ q => q) (fun _ _ q => q.elim) (fun _ _ _ q => q)) fun tm h q => ?_) fun tm h q => ?_
      · obtain ⟨L, hL, st, t6⟩ := q
        refine ends_loop (L0.length + wt t + 4 * K + 5) (fun j tm h => ∃ i L, j = t.kids.length - i ∧ i ≤ t.kids.length ∧ L.length + wtL (t.kids.drop i) ≤ L0.length + wt t ∧ MsSt t h0 v0 L tm h ∧ tm.get 6 = some (i64 (i : Nat))) t.kids.length ⟨0, L, rfl, by omega, by simp; omega, st, t6⟩ (by omega) ?_
        rintro j tm h m ⟨i, L, rfl, hi, hL, st, t6⟩ hm'
        by_cases hlt : i < t.kids.length
        · have hd := wtL_drop t.kids i hlt
          have hwk := wt_kid (List.getElem_mem hlt)
          have hsq2 : wt t.kids[i] * wt t.kids[i] ≤ K := by rw [← hK]; exact Nat.mul_le_mul (by omega) (by omega)
          refine (f189L_iter hlt (ih _ (by omega)) st t6 (by unfold big; omega) (by omega) (by omega)).mono (fun tm' h' q => ?_) (fun _ _ q => q.elim) (fun _ _ _ q => q.elim)
          obtain ⟨L', h1, h2, h3⟩ := q
          exact ⟨_, by omega, i + 1, L', rfl, hlt, by omega, h2, h3⟩
        · exact (f189L_end st t6 (by omega)).mono (fun _ _ q => q.elim) (fun _ _ q => q.elim) (fun _ _ _ q => ⟨q.1, L, by omega, q.2⟩)
      · obtain ⟨L, hL, hb, hn, hlow, hk, hc, t3, v, t0, hv, hy⟩ := q
        simp [piece, sel, sub, Tryz.f189, t0]
        exact MsSt.fin hn hk hv hy hL (by simp)
    rcases key.cases with ⟨_, _, _, q⟩ | ⟨tm, h', e, v, L, t4, hv, hL, hk, hy⟩ | ⟨_, _, _, _, q⟩
    · cases q
    · refine ⟨v, L, h', ?_, hv, hL, hk, hy⟩
      obtain ⟨m, rfl⟩ : ∃ m', m = m' + 1 := ⟨m - 1, by omega⟩
      rw [evK_call _ (by rw [hC]), fn_run (vs := [v]) (h2 := h') (ab := none) TT.f189 f189_split rfl (by rw [e]; simp [t4])]
      rfl
    · cases q
theorem metas133 : ∃ f : Term → List Int, FnC TT Tryz.prog 133 (fun t => wt t ≤ 1073741824) (fun t => [tv t]) (fun t => intsV (f t)) ∧ ∀ t : Term, wt t ≤ 1073741824 → (f t).length ≤ wt t := by
  refine fnP intsV (fun (t : Term) (l : List Int) => l.length ≤ wt t) fun t ht => ?_
  obtain ⟨v, L, h', e, hv, hL, _, _⟩ := metas189 (C := noC) rfl (wt t) t (Nat.le_refl _) (.slice none 0 0) [] (H.empty.new (.cells (cellsL (tv t)) 26 false)) (4 * (wt t * wt t) + 4) (by simp) (.inl ⟨rfl, rfl⟩) (by simpa using ht) (by simp)
  refine ⟨L, by simpa using hL, fun h => fnC_of (v := v) (h1 := h') tok noC noC_sound (.cons (tv_pure t) .nil) (4 * (wt t * wt t) + 4 + 1) ?_ hv.dat h⟩
  rw [fn_run (vs := [v]) (h2 := h') (ab := none) TT.f133 rfl rfl (by simp [Tryz.f133, e])]
  rfl
end Go.Proofs.YtkdfgoimgcegfaaGreatDoor
/- Layer 35: acyclic metavariables: it answers. -/
namespace Go.Proofs.YtkdfgoimgcegfaaGreatDoor
open Go Go.Am Go.Proofs Go.Am.Sym Go.Am.Eu
set_option maxRecDepth 10000
theorem TT.f79 : TT.func 79 = some Tryz.f79 := by kernel_rfl
theorem store3' {h : H} {b : Nat} (k : Int) : storeAt TT h 3 (i64 k) (.pointer (some ⟨b, 0, none⟩)) = storeIn h b 0 [i64 k] (h.get b) := by
  show onB none (storeIn h b 0 [i64 k] (h.get b)) (fits [i64 k] (Am.size TT 3)) = _
  rw [s3]; rfl
theorem storeIn_int (h : H) (b : Nat) (k : Int) (v : Value) (e : TypeId) (g : Bool) : storeIn h b 0 [i64 k] (some (.cells [v] e g)) = some (h.put b (.cells [i64 k] e g)) := rfl
noncomputable def f79B : Code := piece Tryz.f79 [true,false,true,false,false]
theorem f79_split : Tryz.f79.body = some (.seq (piece Tryz.f79 [false]) (.seq (.seq (piece Tryz.f79 [true,false,false]) (.block 0 (.loop f79B))) (piece Tryz.f79 [true,true]))) := rfl
structure AcSt (l : List Meta) (i : Nat) (tm : Tr Value) (h : H) : Prop where
  base : h.base = 0
  t5 : tm.get 5 = some (metasV l)
  t6 : tm.get 6 = some (i64 (l.length : Nat))
  t7 : tm.get 7 = some (i64 i)
noncomputable abbrev AcH (h : H) (i : Nat) (x : Meta) : H := (((h.new (.cells [i64 0] 3 false)).new (.cells [i64 0, i64 0, se, sn, sn, .bool false, i64 0, i64 0, se, sn, sn, .bool false] 64 false)).put h.next (.cells [i64 (i : Nat)] 3 false)).put (h.next + 1) (.cells (cellsL (metaV x)) 64 false)
section
variable {ev : Task → Ans} {l : List Meta} {i : Nat} {tm : Tr Value} {h : H}
theorem f79_iter (st : AcSt l i tm h) (hi : i < l.length) (hw1 : i + 1 ≤ big) {L : List Int}
    (h133 : ∀ h, ev (call0 133 [tv l[i].value] h) = .ret (intsV L) h none)
    (h75 : ∃ b, ev (call0 75 [intsV L, cloV 134 h.next] (AcH h i l[i])) = .ret (.bool b) (AcH h i l[i]) none) :
    EndsAs (fun tm' h' => AcSt l (i + 1) tm' h') (fun tm' _ => ∃ k, tm'.get 2 = some (.bool k)) (fun _ _ _ => False)
      (runCode TT ev ⟨79, none⟩ f79B ⟨tm, [], h, none⟩) := by
  obtain ⟨hb, t5, t6, t7⟩ := st
  have e2 := wrapN hw1
  simp at e2
  obtain ⟨b, e⟩ := h75
  have n1 : ¬ h.next = h.next + 1 := by omega
  cases hk : l[i].known with
  | false =>
    simp [f79B, piece, sel, sub, Tryz.f79, t5, t6, t7, hb, hi, e2, hk, n1, store3', storeIn_int, condK_if]
    exact ⟨by simp [hb], by simp [t5], by simp [t6], by simp⟩
  | true =>
    cases b with
    | true => simp [f79B, piece, sel, sub, Tryz.f79, t5, t6, t7, hb, hi, e2, hk, n1, store3', storeIn_int, h133, e, condK_if]
    | false =>
      simp [f79B, piece, sel, sub, Tryz.f79, t5, t6, t7, hb, hi, e2, hk, n1, store3', storeIn_int, h133, e, condK_if]
      exact ⟨by simp [hb], by simp [t5], by simp [t6], by simp⟩
theorem f79_end (st : AcSt l i tm h) (hi : l.length ≤ i) :
    EndsAs (fun _ _ => False) (fun _ _ => False) (fun j tm' h' => j = 0) (runCode TT ev ⟨79, none⟩ f79B ⟨tm, [], h, none⟩) := by
  obtain ⟨hb, t5, t6, t7⟩ := st
  have hi' : ¬ i < l.length := by omega
  simp [f79B, piece, sel, sub, Tryz.f79, t6, t7, hi']
end
def acOk (l : List Meta) : Prop := l.length < big ∧ ∀ y ∈ l, wt y.value ≤ 1000000000
theorem acyclic79 : ∃ f : List Meta → Bool, FnC TT Tryz.prog 79 acOk (fun l => [metasV l]) (fun x => .bool (f x)) := by
  obtain ⟨f, hf, hlen⟩ := metas133
  obtain ⟨C, hC, h133, c75, c132⟩ : ∃ C, ConS TT Tryz.prog C ∧ Has C 133 (fun t : Term => wt t ≤ 1073741824) (fun t => [tv t]) (fun t => intsV (f t)) ∧ C 75 = (fun _ _ => none) ∧ C 132 = (fun _ _ => none) :=
    ⟨_, addC_sound noC_sound hf, Has.add fun x y e => by simp at e; rw [tv_inj e], rfl, rfl⟩
  refine fnE Value.bool fun l hx => fnE_ends tok C hC (.cons (metasV_pure l) .nil) (fun _ => .ground rfl) (l.length + 1000000010) TT.f79 f79_split rfl ?_
  obtain ⟨hl, hall⟩ := hx
  have p0 : EndsAs (fun tm h => h.base = 0 ∧ tm.get 0 = some (metasV l)) (fun _ _ => False) (fun _ _ _ => False) (runCode TT (evK TT C (l.length + 1000000010 + 1)) ⟨79, none⟩ (piece Tryz.f79 [false]) ⟨initT [metasV l] 0 .nil, [], H.empty, none⟩) := by
    simp [piece, sel, sub, Tryz.f79]
  have p2 : ∀ tm h, (h.base = 0 ∧ tm.get 0 = some (metasV l)) → EndsAs (fun tm h => AcSt l 0 tm h) (fun _ _ => False) (fun _ _ _ => False) (runCode TT (evK TT C (l.length + 1000000010 + 1)) ⟨79, none⟩ (piece Tryz.f79 [true,false,false]) ⟨tm, [], h, none⟩) := by
    rintro tm h ⟨hb, t0⟩
    simp [piece, sel, sub, Tryz.f79, t0, hb]
    exact ⟨hb, by simp, by simp, by simp⟩
  refine ends_seqC (p0.mono (fun _ _ q => q) (fun _ _ q => q.elim) (fun _ _ _ q => q)) fun tm h q =>
    ends_seqC (N' := fun _ _ => True) (ends_seqC ((p2 tm h q).mono (fun _ _ q => q) (fun _ _ q => q.elim) (fun _ _ _ q => q)) fun tm h st => ?_) fun tm h q => ?_
  · refine ends_loop 1000000010 (fun j tm h => ∃ i, j = l.length - i ∧ i ≤ l.length ∧ AcSt l i tm h) l.length ⟨0, rfl, by omega, st⟩ (by omega) ?_
    rintro j tm h m ⟨i, rfl, hi, st⟩ hm
    by_cases hlt : i < l.length
    · have hw := hall l[i] (List.getElem_mem hlt)
      have hll := hlen l[i].value (by omega)
      have hb := st.base
      obtain ⟨m, rfl⟩ : ∃ m', m = m' + 1 := ⟨m - 1, by omega⟩
      refine (f79_iter st hlt (by omega) (L := f l[i].value) (fun h => h133.ev (T := TT) (m + 1) (x := l[i].value) (by show wt _ ≤ 1073741824; omega) h) ?_).mono (fun tm' h' q => ⟨_, by omega, i + 1, rfl, hlt, q⟩) (fun tm' h' q => q) (fun _ _ _ q => q.elim)
      refine run75 c132 c75 (by unfold big; omega) (by omega) (q := fun k => decide (k ≤ (i : Int))) fun k n => run134 (by simp [hb]) (by
        have n1 : ¬ h.next = h.next + 1 := by omega
        simp [n1])
    · exact (f79_end st (by omega)).mono (fun _ _ q => q.elim) (fun _ _ q => q.elim) (fun _ _ _ q => ⟨q, trivial⟩)
  · simp [piece, sel, sub, Tryz.f79]
end Go.Proofs.YtkdfgoimgcegfaaGreatDoor
