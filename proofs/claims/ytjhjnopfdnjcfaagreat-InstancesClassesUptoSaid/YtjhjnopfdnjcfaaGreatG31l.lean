/- Layer 31: the head of a spine. -/
import Derived.Test.YtjhjnopfdnjcfaaGreatG31j
set_option linter.unusedVariables false
set_option linter.unusedSimpArgs false
set_option linter.unusedSectionVars false
set_option linter.all false
namespace Go.Proofs.YtjhjnopfdnjcfaaGreat
open Go Go.Am Go.Proofs Go.Am.Sym Go.Am.Eu
set_option maxRecDepth 10000
theorem TT.f23 : TT.func 23 = some Tryz.f23 := by kernel_rfl
noncomputable def f23B : Code := piece Tryz.f23 [true,true,false,false,false]
theorem f23_split : Tryz.f23.body = some (.seq (piece Tryz.f23 [false]) (.seq (piece Tryz.f23 [true,false]) (.seq (.block 0 (.loop f23B)) (.seq (piece Tryz.f23 [true,true,true,false]) (piece Tryz.f23 [true,true,true,true]))))) := rfl
section
variable {ev : Task → Ans} {N n : Nat} {h0 h : H} {cur : Term} {tm : Tr Value} (st : WalkSt 1 2 N h0 cur n tm h)
include st
theorem f23_iter (hn : n + 1 ≤ 1073741824) (hk : cur.kind = 4) (h2 : cur.kids.length = 2) :
    EndsAs (fun tm' h' => ∃ c, cur.kids[0]? = some c ∧ WalkSt 1 2 N h0 c (n + 1) tm' h') (fun _ _ => False) (fun _ _ _ => False) (runCode TT ev ⟨23, none⟩ f23B ⟨tm, [], h, none⟩) := by
  obtain ⟨hb, hnx, hc, ho, t1, t3, ⟨v, t4, ha⟩, hold⟩ := st
  obtain ⟨a, b, hkids⟩ := two_kids h2
  have q1 : ¬ N = h.next := by omega
  have q2 : ¬ N + 1 = h.next := by omega
  obtain ⟨v', h', e, ha', hb', hn', hkeep⟩ := ArgV.append (lo := N + 2) (v := v) (h := h.new (.cells (cellsL (tv b)) 26 false)) (n := n) (B := h.next) (t := b) (e := 26) (g := false) (by
      rcases ha with ⟨x, y⟩ | ⟨b, c, l1, l2, l3, l4, l5, l6⟩
      · exact .inl ⟨x, y⟩
      · exact .inr ⟨b, c, l1, by simp; omega, l3, by rw [h_new_get, if_neg (by omega)]; exact l4, l5, l6⟩) (by simp [hb]) (by simp; omega) hn (by simp)
  simp at hn'
  have k1 : h'.get N = some (.cells (cellsL (tv cur)) 26 false) := by rw [hkeep N (by omega)]; simp [q1, hc]
  have k2 : h'.get (N + 1) = some (.cells z5 26 false) := by rw [hkeep (N + 1) (by omega)]; simp [q2, ho]
  simp +contextual [f23B, piece, sel, sub, Tryz.f23, t1, t3, t4, hb, hc, hk, h2, hkids, condK_if, e, k1, hb']
  refine ⟨by simp [hb'], by simp; omega, by simp, by simp [k2], by simp [t1], by simp [t3], ⟨v', by simp, ?_⟩, fun j hj => ?_⟩
  · rcases ha' with ⟨x, y⟩ | ⟨b, c, l1, l2, l3, l4, l5, l6⟩
    · exact .inl ⟨x, y⟩
    · exact .inr ⟨b, c, l1, by simp; omega, l3, by rw [h_put_get, if_neg (by omega)]; exact l4, l5, l6⟩
  · have q3 : ¬ j = N := by omega
    have q4 : ¬ j = h.next := by omega
    rw [h_put_get, if_neg q3, hkeep j (by omega), h_new_get, if_neg q4]; exact hold j hj
theorem f23_end (hk : ¬ (cur.kind = 4 ∧ cur.kids.length = 2)) :
    EndsAs (fun _ _ => False) (fun _ _ => False) (fun j tm' h' => j = 0 ∧ WalkSt 1 2 N h0 cur n tm' h') (runCode TT ev ⟨23, none⟩ f23B ⟨tm, [], h, none⟩) := by
  obtain ⟨hb, hnx, hc, ho, t1, t3, ⟨v, t4, ha⟩, hold⟩ := st
  have key : ∀ tm', tm'.get 1 = tm.get 1 → tm'.get 2 = tm.get 2 → tm'.get 4 = tm.get 4 → WalkSt 1 2 N h0 cur n tm' h := fun tm' e1 e3 e4 => ⟨hb, hnx, hc, ho, by rw [e1]; exact t1, by rw [e3]; exact t3, ⟨v, by rw [e4]; exact t4, ha⟩, hold⟩
  by_cases h6 : cur.kind = 4
  · have h2 : ¬ (cur.kids.length : Int) = 2 := fun e => hk ⟨h6, by omega⟩
    simp +contextual [f23B, piece, sel, sub, Tryz.f23, t1, t3, t4, hb, hc, h6, h2, condK_if, key]
  · simp +contextual [f23B, piece, sel, sub, Tryz.f23, t1, t3, t4, hb, hc, h6, condK_if, key]
end
theorem f23_p0 {ev : Task → Ans} {t : Term} {h0 : H} (hb : h0.base = 0) : EndsAs (fun tm h => WalkSt 1 2 h0.next h0 t 0 tm h) (fun _ _ => False) (fun _ _ _ => False)
    (runCode TT ev ⟨23, none⟩ (.seq (piece Tryz.f23 [false]) (piece Tryz.f23 [true,false])) ⟨initT [tv t] 0 .nil, [], h0, none⟩) := by
  simp [piece, sel, sub, Tryz.f23]
  exact ⟨by simp [hb], by simp, by simp, by simp, by simp, by simp, ⟨_, by simp, .inl ⟨rfl, rfl⟩⟩, fun j hj => by
    have q1 : ¬ j = h0.next := by omega
    have q2 : ¬ j = h0.next + 1 := by omega
    simp [q1, q2]⟩
theorem f23_p3 {C : Con} (hC : ∀ a h, C 40 a h = none) {m : Nat} {N n : Nat} {h0 h : H} {cur : Term} {tm : Tr Value} (st : WalkSt 1 2 N h0 cur n tm h) (hn : n < 1073741824) (hm : n + 1 ≤ m) :
    EndsAs (fun tm' h' => WalkSt 1 2 N h0 cur n tm' h') (fun _ _ => False) (fun _ _ _ => False) (runCode TT (evK TT C (m + 1)) ⟨23, none⟩ (piece Tryz.f23 [true,true,true,false]) ⟨tm, [], h, none⟩) := by
  obtain ⟨hb, hnx, hc, ho, t1, t3, ⟨v, t4, ha⟩, hold⟩ := st
  obtain ⟨h', e, ha', hb', hn', hkeep⟩ := rev40 (C := C) hC ha hb hn hm
  simp +contextual [piece, sel, sub, Tryz.f23, t1, t3, t4, e]
  exact ⟨hb', by omega, by rw [hkeep N (by omega)]; exact hc, by rw [hkeep _ (by omega)]; exact ho, by simp [t1], by simp [t3], ⟨v, by simp [t4], ha'⟩, fun j hj => by rw [hkeep j (by omega)]; exact hold j hj⟩
theorem f23_p4 {ev : Task → Ans} {N n : Nat} {h0 h : H} {cur : Term} {tm : Tr Value} (st : WalkSt 1 2 N h0 cur n tm h) :
    EndsAs (fun _ _ => False) (fun tm' h' => (∃ v, tm'.get 3 = some v) ∧ tm'.get 2 = some (.pointer (some ⟨N + 1, 0, none⟩)) ∧ h'.base = 0 ∧ N + 2 ≤ h'.next ∧ h'.get (N + 1) = some (.cells (cellsL (tv cur)) 26 false) ∧ ∀ b, b < N → h'.get b = h0.get b) (fun _ _ _ => False)
      (runCode TT ev ⟨23, none⟩ (piece Tryz.f23 [true,true,true,true]) ⟨tm, [], h, none⟩) := by
  obtain ⟨hb, hnx, hc, ho, t1, t3, ⟨v, t4, ha⟩, hold⟩ := st
  simp +contextual [piece, sel, sub, Tryz.f23, t1, t3, t4, hb, hc, ho]
  refine ⟨hnx, fun j hj => ?_⟩
  rw [if_neg (by omega)]; exact hold j hj
theorem spine23 {C : Con} (hC : ∀ a h, C 23 a h = none) (hC2 : ∀ a h, C 40 a h = none) {t : Term} {h0 : H} {m : Nat} (hb : h0.base = 0) (hw : nodes t < 1073741824) (hm : nodes t + 2 ≤ m) :
    ∃ v u h', evK TT C (m + 1) (call0 23 [tv t] h0) = .ret (.tuple ⟨[tv u, v]⟩) h' none ∧ Goes 4 0 t u ∧ h'.base = 0 ∧ h0.next ≤ h'.next ∧ ∀ b, b < h0.next → h'.get b = h0.get b := by
  obtain ⟨m, rfl⟩ : ∃ k, m = k + 1 := ⟨m - 1, by omega⟩
  have key : EndsAs (fun _ _ => False) (fun tm' h' => ∃ cur, Goes 4 0 t cur ∧ (∃ v, tm'.get 3 = some v) ∧ tm'.get 2 = some (.pointer (some ⟨h0.next + 1, 0, none⟩)) ∧ h'.base = 0 ∧ h0.next + 2 ≤ h'.next ∧ h'.get (h0.next + 1) = some (.cells (cellsL (tv cur)) 26 false) ∧ ∀ b, b < h0.next → h'.get b = h0.get b) (fun _ _ _ => False)
      (runCode TT (evK TT C (m + 1)) ⟨23, none⟩ (.seq (piece Tryz.f23 [false]) (.seq (piece Tryz.f23 [true,false]) (.seq (.block 0 (.loop f23B)) (.seq (piece Tryz.f23 [true,true,true,false]) (piece Tryz.f23 [true,true,true,true]))))) ⟨initT [tv t] 0 .nil, [], h0, none⟩) := by
    refine ends_seq3 ((f23_p0 (ev := evK TT C (m + 1)) (t := t) hb).mono (fun _ _ q => q) (fun _ _ q => q.elim) (fun _ _ _ q => q)) fun tm h st => ends_seqC (N' := fun tm h => ∃ cur n, n + nodes cur ≤ nodes t ∧ Goes 4 0 t cur ∧ WalkSt 1 2 h0.next h0 cur n tm h) ?_ fun tm h ⟨cur, n, hle, hg, st⟩ =>
      ends_seqC ((f23_p3 hC2 st (by omega) (by have := nodesL_pos cur; omega)).mono (fun _ _ q => q) (fun _ _ q => q.elim) (fun _ _ _ q => q)) fun tm h st => (f23_p4 st).mono (fun _ _ q => q) (fun _ _ q => ⟨cur, hg, q⟩) (fun _ _ _ q => q)
    refine ends_loop (N := fun tm h => ∃ cur n, n + nodes cur ≤ nodes t ∧ Goes 4 0 t cur ∧ WalkSt 1 2 h0.next h0 cur n tm h) 0 (fun j tm h => ∃ cur n, j = nodes cur ∧ n + nodes cur ≤ nodes t ∧ (∀ u, Goes 4 0 cur u → Goes 4 0 t u) ∧ WalkSt 1 2 h0.next h0 cur n tm h) (nodes t) ⟨t, 0, rfl, by omega, fun _ h => h, st⟩ (by omega) ?_
    rintro j tm h m ⟨cur, n, rfl, hn, hg, st⟩ -
    by_cases hk : cur.kind = 4 ∧ cur.kids.length = 2
    · refine (f23_iter st (by have := nodesL_pos cur; omega) hk.1 hk.2).mono (fun tm' h' q => ?_) (fun _ _ q => q.elim) (fun _ _ _ q => q.elim)
      obtain ⟨c, hc, st'⟩ := q
      have := nodes_kid (List.mem_of_getElem? hc)
      exact ⟨nodes c, by omega, c, n + 1, rfl, by omega, fun u hu => hg u (.step hk.1 hk.2 hc hu), st'⟩
    · exact (f23_end st hk).mono (fun _ _ q => q.elim) (fun _ _ q => q.elim) (fun i tm' h' q => ⟨q.1, cur, n, hn, hg cur (.stop hk), q.2⟩)
  rcases key.cases with ⟨_, _, _, q⟩ | ⟨tm, h', e, cur, hg, ⟨v, t2⟩, t3, hb', hnx, hcell, hold⟩ | ⟨_, _, _, _, q⟩
  · cases q
  · refine ⟨v, cur, h', ?_, hg, hb', by omega, hold⟩
    rw [evK_call _ (hC _ _), fn_run (vs := [tv cur, v]) (h2 := h') (ab := none) TT.f23 f23_split rfl (by rw [e]; simp [Tryz.f23, t2, t3, hcell, hb'])]
    rfl
  · cases q
end Go.Proofs.YtjhjnopfdnjcfaaGreat
/- Layer 31: the head of a spine, in the other text. -/
namespace Go.Am
open Go
theorem apart_eq (bj : Nat) (x y : Note) : Am.apart bj x y = (hasBit bj y.i || (disj x.wr y.rd && (disj y.wr x.rd && disj x.wr y.wr))) := by
  unfold Am.apart
  cases hasBit bj y.i <;> cases disj x.wr y.rd <;> cases disj y.wr x.rd <;> rfl
theorem apartAll_and (bj : Nat) (x y : Note) (l : List Note) : apartAll bj x (y :: l) = (Am.apart bj x y && apartAll bj x l) := by
  rw [apartAll_cons]; cases Am.apart bj x y <;> rfl
theorem apartAll_nil (bj : Nat) (x : Note) : apartAll bj x [] = true := rfl
theorem disj_or_left (a b c : Nat) : disj (a ||| b) c = (disj a c && disj b c) := disj_lor_left a b c
theorem disj_or_right (a b c : Nat) : disj c (a ||| b) = (disj c a && disj c b) := disj_lor_right a b c
theorem touch_fresh (h : H) {b : Nat} (hb : b < h.next) : h.fresh.touch b = ⟨h.m, h.next, h.next, bit b, 0⟩ := by
  rw [touch_eq, if_neg (by rw [Sym.fresh_base]; omega), fresh_eq]
  show (⟨_, _, _, Nat.lor 0 (bit b), _⟩ : H) = _
  rw [zero_lor]
namespace Sym
variable {T : Tab} {ev : Task → Ans}
variable (bs : Tr Nat) (i : Nat) (l : List Note) (tm : Tr Value) (df : List Deferred) (h : H) (ab : Option (List PanicEntry)) (k : List Note → S → Ans)
theorem done_app0 (o : AObj) {K : Nat} (hb : h.base = 0) (hK : K < h.next) (ha : apartAll (beforeOf bs i) ⟨i, bit K, bit h.next⟩ l = true) :
    doneD k bs l i tm df h ab ((h.fresh.touch K).new o) = k (⟨i, bit K, bit h.next⟩ :: l) ⟨tm, df, h.new o, ab⟩ := by
  rw [touch_fresh h hK, new_eq]
  rw [done_note (rd := bit K) (wr := bit h.next) (hb := hb) (hr := rfl) (hw := by show Nat.lor 0 (rangeBits h.next (h.next + 1)) = _; rw [rangeBits_one, zero_lor]) (hz := by rw [bit_ne]; rfl) (ha := ha), new_eq]
theorem done_app1 (o : AObj) {b K : Nat} (hb : h.base = 0) (hK : K < h.next) (hlt : b < h.next) (ha : apartAll (beforeOf bs i) ⟨i, Nat.lor (Nat.lor (bit b) (bit K)) (bit b), Nat.lor (bit b) (bit h.next)⟩ l = true) :
    doneD k bs l i tm df h ab ((((h.fresh.touch b).touch K).drop b).new o) = k (⟨i, Nat.lor (Nat.lor (bit b) (bit K)) (bit b), Nat.lor (bit b) (bit h.next)⟩ :: l) ⟨tm, df, (h.drop b).new o, ab⟩ := by
  have e1 : ((h.fresh.touch b).touch K) = ⟨h.m, h.next, h.next, Nat.lor (bit b) (bit K), 0⟩ := by
    rw [touch_fresh h hlt, touch_eq, if_neg (by show ¬ h.next ≤ K; omega)]
  have e2 : (((h.fresh.touch b).touch K).drop b).new o = ⟨(h.m.del b).set h.next o, h.next + 1, h.next, Nat.lor (Nat.lor (bit b) (bit K)) (bit b), bit b⟩ := by
    rw [e1, H.drop, delM_eq, mark_eq, if_neg (by show ¬ h.next ≤ b; omega), new_eq]
    show (⟨_, _, _, _, Nat.lor 0 (bit b)⟩ : H) = _
    rw [zero_lor]
  have e3 : (h.drop b).new o = ⟨(h.m.del b).set h.next o, h.next + 1, h.base, h.rd, h.wr⟩ := by
    rw [H.drop, delM_eq, mark_eq, if_pos (by omega), new_eq]
  have hz : (Nat.beq (Nat.lor (Nat.lor (bit b) (bit K)) (bit b)) 0 && Nat.beq (Nat.lor (bit b) (bit h.next)) 0) = false := by
    have : Nat.beq (Nat.lor (bit b) (bit h.next)) 0 = false := nbeq_ne (by
      intro e
      have q := testBit_lor_left (x := bit h.next) (testBit_bit b)
      rw [e] at q; simp at q)
    rw [this, Bool.and_false]
  rw [e2, done_note (hb := hb) (hr := rfl) (hw := by show Nat.lor (bit b) (rangeBits h.next (h.next + 1)) = _; rw [rangeBits_one]) (hz := hz) (ha := ha), e3]
end Sym
end Go.Am
namespace Go.Proofs.YtjhjnopfdnjcfaaGreat
open Go Go.Am Go.Proofs Go.Am.Sym Go.Am.Eu
set_option maxRecDepth 10000
theorem TT.f26 : TT.func 26 = some Tryz.f26 := by kernel_rfl
theorem f26_split : Tryz.f26.body = some (.seq (piece Tryz.f26 [false]) (.seq (piece Tryz.f26 [true,false]) (.seq (piece Tryz.f26 [true,true,false]) (piece Tryz.f26 [true,true,true])))) := rfl
noncomputable def f26R : Array Oper := regOps (piece Tryz.f26 [true,true,true,false])
theorem f26_last : piece Tryz.f26 [true,true,true] = .seq (.region 4 f26R true) .ret := rfl
noncomputable def f26bs : Tr Nat := befores f26R.toList 0 .nil
theorem f26_7_6 : hasBit (beforeOf f26bs 7) 6 = true := by kernel_rfl
/-- Before the last part: the kid's head is in a cell, its arguments are known. -/
structure SpSt (N M : Nat) (h0 : H) (a b u : Term) (n : Nat) (t : Term) (tm : Tr Value) (h : H) : Prop where
  base : h.base = 0
  lo : N + 2 ≤ M
  next : M < h.next
  cur : h.get N = some (.cells (cellsL (tv t)) 26 false)
  out : h.get (N + 1) = some (.cells z5 26 false)
  head : h.get M = some (.cells (cellsL (tv u)) 26 false)
  kids : t.kids = [a, b]
  t1 : tm.get 1 = some (.pointer (some ⟨N, 0, none⟩))
  t2 : tm.get 2 = some (.pointer (some ⟨N + 1, 0, none⟩))
  t4 : tm.get 4 = some (.pointer (some ⟨M, 0, none⟩))
  args : ∃ v, tm.get 5 = some v ∧ ((n = 0 ∧ v = .slice none 0 0) ∨ ∃ b c, N + 2 ≤ b ∧ b < h.next ∧ b ≠ M ∧ v = .slice (some ⟨b, 0, none⟩) n n ∧ h.get b = some (.cells c 26 true) ∧ c.length = n * 5 ∧ oneCells c = true)
  old : ∀ b, b < N → h.get b = h0.get b
theorem f26_reg {ev : Task → Ans} {N M n : Nat} {h0 h : H} {a b u t : Term} {tm : Tr Value} (st : SpSt N M h0 a b u n t tm h) (hn : n + 1 ≤ 1073741824) :
    EndsAs (fun tm' h' => (∃ v, tm'.get 3 = some v ∧ ArgV (N + 2) v h' (n + 1)) ∧ tm'.get 2 = some (.pointer (some ⟨N + 1, 0, none⟩)) ∧ h'.base = 0 ∧ N + 2 ≤ h'.next ∧ h'.get (N + 1) = some (.cells (cellsL (tv u)) 26 false) ∧ ∀ b, b < N → h'.get b = h0.get b)
      (fun _ _ => False) (fun _ _ _ => False) (runRegion TT ev ⟨26, none⟩ f26R true ⟨tm, [], h, none⟩) := by
  obtain ⟨hb, hlo, hnx, hc, ho, hh, hkids, t1, t2, t4, ⟨v, t5, ha⟩, hold⟩ := st
  rw [reg_drawn]
  have b76 := f26_7_6
  have e : befores f26R.toList 0 .nil = f26bs := rfl
  rw [e]
  generalize f26bs = bs at b76
  have l1 : N < h.next := by omega
  have l2 : N + 1 < h.next := by omega
  have l3 : N < h.next + 1 := by omega
  have l4 : N + 1 < h.next + 1 + 1 := by omega
  have n1 : ¬ h.next = N := by omega
  have n1' : ¬ N = h.next := by omega
  have n2 : ¬ h.next = M := by omega
  have n2' : ¬ M = h.next := by omega
  have n3 : ¬ h.next = N + 1 := by omega
  have n3' : ¬ N + 1 = h.next := by omega
  have n4 : ¬ N + 1 = M := by omega
  have n5 : ¬ M = N + 1 := by omega
  have n6 : ¬ N + 1 = h.next + 1 := by omega
  have n7 : ¬ h.next + 1 = N + 1 := by omega
  have n8 : ¬ h.next + 1 = N := by omega
  have n9 : ¬ h.next + 1 = M := by omega
  rcases ha with ⟨rfl, rfl⟩ | ⟨d, c, d1, d2, d3, rfl, d4, d5, d6⟩
  · have ap := append_nil (h := (h.new (.cells (cellsL (tv b)) 26 false)).fresh) (B := h.next) (t := b) (e := 26) (g := false) (by simp)
    simp only [fresh_next, h_new_next] at ap
    simp +contextual [f26R, regOps, piece, sel, sub, Tryz.f26, t1, t2, t4, t5, hb, hc, ho, hh, hkids, l1, l2, l3, l4, hnx, ap, done_app0, done_put, apartAll_and, apartAll_nil, apart_eq, disj_bits, disj_zero_left, disj_zero_right, disj_or_left, disj_or_right, b76, n1, n1', n2, n2', n3, n3', n4, n5, n6, n7, n8, n9]
    refine ⟨.inr ⟨h.next + 1, cellsL (tv b), by omega, by simp, rfl, by simp [n1, n7], by rw [len_tv], one_tv b⟩, by omega, fun j hj => ?_⟩
    rw [if_neg (by omega), if_neg (by omega), if_neg (by omega)]; exact hold j hj
  · have d7 : ¬ d = h.next := by omega
    have d8 : ¬ h.next = d := by omega
    have d9 : ¬ d = h.next + 1 := by omega
    have d10 : ¬ h.next + 1 = d := by omega
    have d11 : ¬ d = N + 1 := by omega
    have d12 : ¬ N + 1 = d := by omega
    have d13 : ¬ d = N := by omega
    have d14 : ¬ N = d := by omega
    have d15 : ¬ M = d := fun e => d3 e.symm
    have d16 : d < h.next + 1 := by omega
    have ap := append_some (h := (h.new (.cells (cellsL (tv b)) 26 false)).fresh) (b := d) (c := c) (n := n) (B := h.next) (t := b) (e := 26) (g := false) (by simp [d7, d4]) d5 (by simp) hn
    simp only [fresh_next, h_new_next] at ap
    simp +contextual [f26R, regOps, piece, sel, sub, Tryz.f26, t1, t2, t4, t5, hb, hc, ho, hh, hkids, l1, l2, l3, l4, hnx, ap, done_app1, done_put, apartAll_and, apartAll_nil, apart_eq, disj_bits, disj_zero_left, disj_zero_right, disj_or_left, disj_or_right, b76, n1, n1', n2, n2', n3, n3', n4, n5, n6, n7, n8, n9, d3, d7, d8, d9, d10, d11, d12, d13, d14, d15, d16]
    refine ⟨.inr ⟨h.next + 1, c ++ cellsL (tv b), by omega, by simp, rfl, by simp [n1, n7], by rw [List.length_append, len_tv, d5]; omega, ?_⟩, by omega, fun j hj => ?_⟩
    · rw [oneCells_iff]
      intro x hx
      rcases List.mem_append.1 hx with hx | hx
      · exact (oneCells_iff _).1 d6 x hx
      · exact (oneCells_iff _).1 (one_tv b) x hx
    · rw [if_neg (by omega), if_neg (by omega), if_neg (by omega), if_neg (by omega)]; exact hold j hj
/-- What a spine's walk leaves. -/
def SpOut (N n : Nat) (h0 : H) (u : Term) (tm : Tr Value) (h : H) : Prop :=
  (∃ v, tm.get 3 = some v ∧ ArgV (N + 2) v h n) ∧ tm.get 2 = some (.pointer (some ⟨N + 1, 0, none⟩)) ∧ h.base = 0 ∧ N + 2 ≤ h.next ∧ h.get (N + 1) = some (.cells (cellsL (tv u)) 26 false) ∧ ∀ b, b < N → h.get b = h0.get b
/-- At its start. -/
structure SpIn (N : Nat) (h0 : H) (t : Term) (tm : Tr Value) (h : H) : Prop where
  base : h.base = 0
  next : h.next = N + 2
  cur : h.get N = some (.cells (cellsL (tv t)) 26 false)
  out : h.get (N + 1) = some (.cells z5 26 false)
  t1 : tm.get 1 = some (.pointer (some ⟨N, 0, none⟩))
  t2 : tm.get 2 = some (.pointer (some ⟨N + 1, 0, none⟩))
  old : ∀ b, b < N → h.get b = h0.get b
theorem f26_p0 {ev : Task → Ans} {t : Term} {h0 : H} (hb : h0.base = 0) : EndsAs (fun tm h => SpIn h0.next h0 t tm h) (fun _ _ => False) (fun _ _ _ => False)
    (runCode TT ev ⟨26, none⟩ (piece Tryz.f26 [false]) ⟨initT [tv t] 0 .nil, [], h0, none⟩) := by
  simp [piece, sel, sub, Tryz.f26]
  exact ⟨by simp [hb], by simp, by simp, by simp, by simp, by simp, fun j hj => by
    have q1 : ¬ j = h0.next := by omega
    have q2 : ¬ j = h0.next + 1 := by omega
    simp [q1, q2]⟩
section
variable {ev : Task → Ans} {N : Nat} {h0 h : H} {t : Term} {tm : Tr Value} (st : SpIn N h0 t tm h)
include st
theorem f26_stop (hk : ¬ (t.kind = 4 ∧ t.kids.length = 2)) :
    EndsAs (fun _ _ => False) (fun tm' h' => SpOut N 0 h0 t tm' h') (fun _ _ _ => False) (runCode TT ev ⟨26, none⟩ (piece Tryz.f26 [true,false]) ⟨tm, [], h, none⟩) := by
  obtain ⟨hb, hnx, hc, ho, t1, t2, hold⟩ := st
  have hold' : ∀ b, b < N → (h.put (N + 1) (.cells (cellsL (tv t)) 26 false)).get b = h0.get b := fun j hj => by rw [h_put_get, if_neg (by omega)]; exact hold j hj
  by_cases h6 : t.kind = 4
  · have h2 : ¬ (t.kids.length : Int) = 2 := fun e => hk ⟨h6, by omega⟩
    simp +contextual [piece, sel, sub, Tryz.f26, t1, t2, hb, hc, ho, h6, h2, condK_if]
    exact ⟨⟨.slice none 0 0, by simp, .inl ⟨rfl, rfl⟩⟩, by simp [t2], by simp [hb], by simp [hnx], by simp, hold'⟩
  · simp +contextual [piece, sel, sub, Tryz.f26, t1, t2, hb, hc, ho, h6, condK_if]
    exact ⟨⟨.slice none 0 0, by simp, .inl ⟨rfl, rfl⟩⟩, by simp [t2], by simp [hb], by simp [hnx], by simp, hold'⟩
theorem f26_on (hk : t.kind = 4) (h2 : t.kids.length = 2) :
    EndsAs (fun tm' h' => SpIn N h0 t tm' h') (fun _ _ => False) (fun _ _ _ => False) (runCode TT ev ⟨26, none⟩ (piece Tryz.f26 [true,false]) ⟨tm, [], h, none⟩) := by
  obtain ⟨hb, hnx, hc, ho, t1, t2, hold⟩ := st
  simp +contextual [piece, sel, sub, Tryz.f26, t1, t2, hb, hc, ho, hk, h2, condK_if]
  exact ⟨hb, hnx, hc, ho, by simp [t1], by simp [t2], hold⟩
theorem f26_down {a b u : Term} {v : Value} {h1 : H} {n : Nat} (hkids : t.kids = [a, b]) (hev : ev (call0 26 [tv a] h) = .ret (.tuple ⟨[tv u, v]⟩) h1 none) (hb1 : h1.base = 0) (hle : h.next ≤ h1.next) (hkeep : ∀ b, b < h.next → h1.get b = h.get b) (ha : ArgV h.next v h1 n) :
    EndsAs (fun tm' h' => SpSt N h1.next h0 a b u n t tm' h') (fun _ _ => False) (fun _ _ _ => False) (runCode TT ev ⟨26, none⟩ (piece Tryz.f26 [true,true,false]) ⟨tm, [], h, none⟩) := by
  obtain ⟨hb, hnx, hc, ho, t1, t2, hold⟩ := st
  have k1 : h1.get N = some (.cells (cellsL (tv t)) 26 false) := by rw [hkeep N (by omega)]; exact hc
  have k2 : h1.get (N + 1) = some (.cells z5 26 false) := by rw [hkeep (N + 1) (by omega)]; exact ho
  have q1 : ¬ N = h1.next := by omega
  have q2 : ¬ N + 1 = h1.next := by omega
  simp +contextual [piece, sel, sub, Tryz.f26, t1, t2, hb, hc, ho, hkids, hev, hb1, condK_if]
  refine ⟨by simp [hb1], by omega, by simp, by simp [q1, k1], by simp [q2, k2], by simp, hkids, by simp [t1], by simp [t2], by simp, ⟨v, by simp, ?_⟩, fun j hj => ?_⟩
  · rcases ha with ⟨x, y⟩ | ⟨d, c, l1, l2, l3, l4, l5, l6⟩
    · exact .inl ⟨x, y⟩
    · exact .inr ⟨d, c, by omega, by simp; omega, by omega, l3, by rw [h_put_get, if_neg (by omega), h_new_get, if_neg (by omega)]; exact l4, l5, l6⟩
  · rw [h_put_get, if_neg (by omega), h_new_get, if_neg (by omega), hkeep j (by omega)]; exact hold j hj
end
theorem spine26 {C : Con} (hC : ∀ a h, C 26 a h = none) : ∀ (k : Nat) {t : Term} {h0 : H} {m : Nat}, nodes t ≤ k → h0.base = 0 → nodes t < 1073741824 → nodes t + 1 ≤ m →
    ∃ v u h' n, evK TT C (m + 1) (call0 26 [tv t] h0) = .ret (.tuple ⟨[tv u, v]⟩) h' none ∧ Goes 4 0 t u ∧ n < nodes t ∧ ArgV h0.next v h' n ∧ h'.base = 0 ∧ h0.next ≤ h'.next ∧ ∀ b, b < h0.next → h'.get b = h0.get b := by
  intro k
  induction k with
  | zero => intro t h0 m h; have := nodesL_pos t; omega
  | succ k ih =>
    intro t h0 m hk hb hw hm
    obtain ⟨m, rfl⟩ : ∃ j, m = j + 1 := ⟨m - 1, by omega⟩
    have key : EndsAs (fun _ _ => False) (fun tm' h' => ∃ u n, Goes 4 0 t u ∧ n < nodes t ∧ SpOut h0.next n h0 u tm' h') (fun _ _ _ => False)
        (runCode TT (evK TT C (m + 1)) ⟨26, none⟩ (.seq (piece Tryz.f26 [false]) (.seq (piece Tryz.f26 [true,false]) (.seq (piece Tryz.f26 [true,true,false]) (piece Tryz.f26 [true,true,true])))) ⟨initT [tv t] 0 .nil, [], h0, none⟩) := by
      refine ends_seqC ((f26_p0 (ev := evK TT C (m + 1)) (t := t) hb).mono (fun _ _ q => q) (fun _ _ q => q.elim) (fun _ _ _ q => q)) fun tm h st => ?_
      by_cases hg : t.kind = 4 ∧ t.kids.length = 2
      · obtain ⟨a, b, hkids⟩ := two_kids hg.2
        have hna : nodes a < nodes t := nodes_kid (by rw [hkids]; simp)
        refine ends_seqC ((f26_on st hg.1 hg.2).mono (fun _ _ q => q) (fun _ _ q => q.elim) (fun _ _ _ q => q)) fun tm h st => ?_
        obtain ⟨v, u, h1, n, e, hgo, hn, ha, hb1, hle, hkeep⟩ := ih (t := a) (h0 := h) (m := m) (by omega) st.base (by omega) (by have := nodesL_pos a; omega)
        refine ends_seqC ((f26_down st hkids e hb1 hle hkeep ha).mono (fun _ _ q => q) (fun _ _ q => q.elim) (fun _ _ _ q => q)) fun tm h st => ?_
        rw [f26_last]
        refine ends_seqC ((f26_reg st (by omega)).mono (fun _ _ q => q) (fun _ _ q => q.elim) (fun _ _ _ q => q.elim)) fun tm' h' q => ?_
        rw [run_ret, ends_ret]
        exact ⟨u, n + 1, .step hg.1 hg.2 (by rw [hkids]; rfl) hgo, by omega, q⟩
      · exact ends_seqC (N' := fun _ _ => False) ((f26_stop st hg).mono (fun _ _ q => q) (fun _ _ q => ⟨t, 0, .stop hg, by have := nodesL_pos t; omega, q⟩) (fun _ _ _ q => q)) fun _ _ q => q.elim
    rcases key.cases with ⟨_, _, _, q⟩ | ⟨tm, h', e, u, n, hg, hn, ⟨v, t3, ha⟩, t2, hb', hnx, hcell, hold⟩ | ⟨_, _, _, _, q⟩
    · cases q
    · refine ⟨v, u, h', n, ?_, hg, hn, ?_, hb', by omega, hold⟩
      · rw [evK_call _ (hC _ _), fn_run (vs := [tv u, v]) (h2 := h') (ab := none) TT.f26 f26_split rfl (by rw [e]; simp [Tryz.f26, t2, t3, hcell, hb'])]
        rfl
      · rcases ha with ⟨x, y⟩ | ⟨d, c, l1, l2, l3, l4, l5, l6⟩
        · exact .inl ⟨x, y⟩
        · exact .inr ⟨d, c, by omega, l2, l3, l4, l5, l6⟩
    · cases q
end Go.Proofs.YtjhjnopfdnjcfaaGreat
