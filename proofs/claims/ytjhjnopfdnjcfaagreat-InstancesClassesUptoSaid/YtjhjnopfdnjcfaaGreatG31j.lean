/- Layer 31: the end of a telescope, in the other text. -/
import Derived.Test.YtjhjnopfdnjcfaaGreatS31c
set_option linter.unusedVariables false
set_option linter.unusedSimpArgs false
set_option linter.unusedSectionVars false
set_option linter.all false
namespace Go.Proofs.YtjhjnopfdnjcfaaGreat
open Go Go.Am Go.Proofs Go.Am.Sym Go.Am.Eu
set_option maxRecDepth 10000
/-! ALL25 -/
theorem TT.f25 : TT.func 25 = some Tryz.f25 := by kernel_rfl
noncomputable def f25B : Code := piece Tryz.f25 [true,true,false,false,false]
theorem f25_split : Tryz.f25.body = some (.seq (piece Tryz.f25 [false]) (.seq (piece Tryz.f25 [true,false]) (.seq (.block 0 (.loop f25B)) (piece Tryz.f25 [true,true,true])))) := rfl
section
variable {ev : Task → Ans} {N n : Nat} {h0 h : H} {cur : Term} {tm : Tr Value} (st : WalkSt 1 3 N h0 cur n tm h)
include st
theorem f25_iter (hn : n + 1 ≤ 1073741824) (hk : cur.kind = 6) (h2 : cur.kids.length = 2) :
    EndsAs (fun tm' h' => ∃ c, cur.kids[1]? = some c ∧ WalkSt 1 3 N h0 c (n + 1) tm' h') (fun _ _ => False) (fun _ _ _ => False) (runCode TT ev ⟨25, none⟩ f25B ⟨tm, [], h, none⟩) := by
  obtain ⟨hb, hnx, hc, ho, t1, t3, ⟨v, t4, ha⟩, hold⟩ := st
  obtain ⟨a, b, hkids⟩ := two_kids h2
  have q1 : ¬ N = h.next := by omega
  have q2 : ¬ N + 1 = h.next := by omega
  obtain ⟨v', h', e, ha', hb', hn', hkeep⟩ := ArgV.append (lo := N + 2) (v := v) (h := h.new (.cells (cellsL (tv a)) 26 false)) (n := n) (B := h.next) (t := a) (e := 26) (g := false) (by
      rcases ha with ⟨x, y⟩ | ⟨b, c, l1, l2, l3, l4, l5, l6⟩
      · exact .inl ⟨x, y⟩
      · exact .inr ⟨b, c, l1, by simp; omega, l3, by rw [h_new_get, if_neg (by omega)]; exact l4, l5, l6⟩) (by simp [hb]) (by simp; omega) hn (by simp)
  simp at hn'
  have k1 : h'.get N = some (.cells (cellsL (tv cur)) 26 false) := by rw [hkeep N (by omega)]; simp [q1, hc]
  have k2 : h'.get (N + 1) = some (.cells z5 26 false) := by rw [hkeep (N + 1) (by omega)]; simp [q2, ho]
  simp +contextual [f25B, piece, sel, sub, Tryz.f25, t1, t3, t4, hb, hc, hk, h2, hkids, condK_if, e, k1, hb']
  refine ⟨by simp [hb'], by simp; omega, by simp, by simp [k2], by simp [t1], by simp [t3], ⟨v', by simp, ?_⟩, fun j hj => ?_⟩
  · rcases ha' with ⟨x, y⟩ | ⟨b, c, l1, l2, l3, l4, l5, l6⟩
    · exact .inl ⟨x, y⟩
    · exact .inr ⟨b, c, l1, by simp; omega, l3, by rw [h_put_get, if_neg (by omega)]; exact l4, l5, l6⟩
  · have q3 : ¬ j = N := by omega
    have q4 : ¬ j = h.next := by omega
    rw [h_put_get, if_neg q3, hkeep j (by omega), h_new_get, if_neg q4]; exact hold j hj
theorem f25_end (hk : ¬ (cur.kind = 6 ∧ cur.kids.length = 2)) :
    EndsAs (fun _ _ => False) (fun _ _ => False) (fun j tm' h' => j = 0 ∧ WalkSt 1 3 N h0 cur n tm' h') (runCode TT ev ⟨25, none⟩ f25B ⟨tm, [], h, none⟩) := by
  have st' := st
  obtain ⟨hb, hnx, hc, ho, t1, t3, ⟨v, t4, ha⟩, hold⟩ := st
  have key : ∀ tm', tm'.get 1 = tm.get 1 → tm'.get 3 = tm.get 3 → tm'.get 4 = tm.get 4 → WalkSt 1 3 N h0 cur n tm' h := fun tm' e1 e3 e4 => ⟨hb, hnx, hc, ho, by rw [e1]; exact t1, by rw [e3]; exact t3, ⟨v, by rw [e4]; exact t4, ha⟩, hold⟩
  by_cases h6 : cur.kind = 6
  · have h2 : ¬ (cur.kids.length : Int) = 2 := fun e => hk ⟨h6, by omega⟩
    simp +contextual [f25B, piece, sel, sub, Tryz.f25, t1, t3, t4, hb, hc, h6, h2, condK_if, key]
  · simp +contextual [f25B, piece, sel, sub, Tryz.f25, t1, t3, t4, hb, hc, h6, condK_if, key]
end
theorem f25_p0 {ev : Task → Ans} {t : Term} {h0 : H} (hb : h0.base = 0) : EndsAs (fun tm h => WalkSt 1 3 h0.next h0 t 0 tm h) (fun _ _ => False) (fun _ _ _ => False)
    (runCode TT ev ⟨25, none⟩ (.seq (piece Tryz.f25 [false]) (piece Tryz.f25 [true,false])) ⟨initT [tv t] 0 .nil, [], h0, none⟩) := by
  simp [piece, sel, sub, Tryz.f25]
  exact ⟨by simp [hb], by simp, by simp, by simp, by simp, by simp, ⟨_, by simp, .inl ⟨rfl, rfl⟩⟩, fun j hj => by
    have q1 : ¬ j = h0.next := by omega
    have q2 : ¬ j = h0.next + 1 := by omega
    simp [q1, q2]⟩
theorem f25_p3 {ev : Task → Ans} {N n : Nat} {h0 h : H} {cur : Term} {tm : Tr Value} (st : WalkSt 1 3 N h0 cur n tm h) :
    EndsAs (fun _ _ => False) (fun tm' h' => (∃ v, tm'.get 2 = some v) ∧ tm'.get 3 = some (.pointer (some ⟨N + 1, 0, none⟩)) ∧ h'.base = 0 ∧ N + 2 ≤ h'.next ∧ h'.get (N + 1) = some (.cells (cellsL (tv cur)) 26 false) ∧ ∀ b, b < N → h'.get b = h0.get b) (fun _ _ _ => False)
      (runCode TT ev ⟨25, none⟩ (piece Tryz.f25 [true,true,true]) ⟨tm, [], h, none⟩) := by
  obtain ⟨hb, hnx, hc, ho, t1, t3, ⟨v, t4, ha⟩, hold⟩ := st
  have q1 : N < h.next := by omega
  have q2 : N + 1 < h.next := by omega
  simp +contextual [piece, sel, sub, Tryz.f25, t1, t3, t4, hb, hc, ho, q1, q2, done_put, apartAll_one, apart_other]
  refine ⟨hnx, fun j hj => ?_⟩
  rw [if_neg (by omega)]; exact hold j hj
theorem all25 {C : Con} (hC : ∀ a h, C 25 a h = none) {t : Term} {h0 : H} {m : Nat} (hb : h0.base = 0) (hw : nodes t < 1073741824) (hm : nodes t + 1 ≤ m) :
    ∃ v u h', evK TT C (m + 1) (call0 25 [tv t] h0) = .ret (.tuple ⟨[v, tv u]⟩) h' none ∧ Goes 6 1 t u ∧ h'.base = 0 ∧ h0.next ≤ h'.next ∧ ∀ b, b < h0.next → h'.get b = h0.get b := by
  have key : EndsAs (fun _ _ => False) (fun tm' h' => ∃ cur, Goes 6 1 t cur ∧ (∃ v, tm'.get 2 = some v) ∧ tm'.get 3 = some (.pointer (some ⟨h0.next + 1, 0, none⟩)) ∧ h'.base = 0 ∧ h0.next + 2 ≤ h'.next ∧ h'.get (h0.next + 1) = some (.cells (cellsL (tv cur)) 26 false) ∧ ∀ b, b < h0.next → h'.get b = h0.get b) (fun _ _ _ => False)
      (runCode TT (evK TT C m) ⟨25, none⟩ (.seq (piece Tryz.f25 [false]) (.seq (piece Tryz.f25 [true,false]) (.seq (.block 0 (.loop f25B)) (piece Tryz.f25 [true,true,true])))) ⟨initT [tv t] 0 .nil, [], h0, none⟩) := by
    refine ends_seq3 ((f25_p0 (ev := evK TT C m) (t := t) hb).mono (fun _ _ q => q) (fun _ _ q => q.elim) (fun _ _ _ q => q)) fun tm h st => ends_seqC (N' := fun tm h => ∃ cur n, Goes 6 1 t cur ∧ WalkSt 1 3 h0.next h0 cur n tm h) ?_ fun tm h ⟨cur, n, hg, st⟩ => (f25_p3 st).mono (fun _ _ q => q) (fun _ _ q => ⟨cur, hg, q⟩) (fun _ _ _ q => q)
    refine ends_loop (N := fun tm h => ∃ cur n, Goes 6 1 t cur ∧ WalkSt 1 3 h0.next h0 cur n tm h) 0 (fun j tm h => ∃ cur n, j = nodes cur ∧ n + nodes cur ≤ nodes t ∧ (∀ u, Goes 6 1 cur u → Goes 6 1 t u) ∧ WalkSt 1 3 h0.next h0 cur n tm h) (nodes t) ⟨t, 0, rfl, by omega, fun _ h => h, st⟩ (by omega) ?_
    rintro j tm h m ⟨cur, n, rfl, hn, hg, st⟩ -
    by_cases hk : cur.kind = 6 ∧ cur.kids.length = 2
    · refine (f25_iter st (by have := nodesL_pos cur; omega) hk.1 hk.2).mono (fun tm' h' q => ?_) (fun _ _ q => q.elim) (fun _ _ _ q => q.elim)
      obtain ⟨c, hc, st'⟩ := q
      have := nodes_kid (List.mem_of_getElem? hc)
      exact ⟨nodes c, by omega, c, n + 1, rfl, by omega, fun u hu => hg u (.step hk.1 hk.2 hc hu), st'⟩
    · exact (f25_end st hk).mono (fun _ _ q => q.elim) (fun _ _ q => q.elim) (fun i tm' h' q => ⟨q.1, cur, n, hg cur (.stop hk), q.2⟩)
  rcases key.cases with ⟨_, _, _, q⟩ | ⟨tm, h', e, cur, hg, ⟨v, t2⟩, t3, hb', hnx, hcell, hold⟩ | ⟨_, _, _, _, q⟩
  · cases q
  · refine ⟨v, cur, h', ?_, hg, hb', by omega, hold⟩
    obtain ⟨m, rfl⟩ : ∃ k, m = k + 1 := ⟨m - 1, by omega⟩
    rw [evK_call _ (hC _ _), fn_run (vs := [v, tv cur]) (h2 := h') (ab := none) TT.f25 f25_split rfl (by rw [e]; simp [Tryz.f25, t2, t3, hcell, hb'])]
    rfl
  · cases q
end Go.Proofs.YtjhjnopfdnjcfaaGreat
/- Layer 31: a slice of terms, turned round. -/
namespace Go.Proofs.YtjhjnopfdnjcfaaGreat
open Go Go.Am Go.Proofs Go.Am.Sym Go.Am.Eu
set_option maxRecDepth 10000
theorem TT.f40 : TT.func 40 = some Tryz.f40 := by kernel_rfl
noncomputable def f40B : Code := piece Tryz.f40 [true,false,false]
theorem f40_split : Tryz.f40.body = some (.seq (piece Tryz.f40 [false]) (.block 0 (.loop f40B))) := rfl
def regOps : Code → Array Oper
  | .region _ ops _ => ops
  | _ => #[]
noncomputable def f40R : Array Oper := regOps (piece Tryz.f40 [true,false,false,true,false,false])
theorem f40_reg : piece Tryz.f40 [true,false,false,true,false,false] = .region 3 f40R true := rfl
theorem f40B_split : f40B = .seq (piece Tryz.f40 [true,false,false,false]) (.seq (.block 1 (.region 3 f40R true)) (piece Tryz.f40 [true,false,false,true,true])) := rfl
noncomputable def f40bs : Tr Nat := befores f40R.toList 0 .nil
theorem f40_13_7 : hasBit (beforeOf f40bs 13) 7 = true := by kernel_rfl
theorem f40_13_11 : hasBit (beforeOf f40bs 13) 11 = true := by kernel_rfl
theorem f40_15_7 : hasBit (beforeOf f40bs 15) 7 = true := by kernel_rfl
theorem f40_15_11 : hasBit (beforeOf f40bs 15) 11 = true := by kernel_rfl
theorem f40_15_13 : hasBit (beforeOf f40bs 15) 13 = true := by kernel_rfl
theorem apart_before {bj i j a b c d : Nat} (h : hasBit bj j = true) : Am.apart bj ⟨i, a, b⟩ ⟨j, c, d⟩ = true := by
  unfold Am.apart; rw [h]; rfl
theorem apartAll_both {bj : Nat} {x y : Note} {l : List Note} (h1 : Am.apart bj x y = true) (h2 : apartAll bj x l = true) : apartAll bj x (y :: l) = true := by
  rw [apartAll_cons, h1, h2]; rfl
@[simp] theorem idx_slice {h : H} {b n m i : Nat} {k : IntKind} (hi : i < n) : indexAddrOf TT h (some (.slice 26)) (some (.slice (some ⟨b, 0, none⟩) n m)) (some (.int k (i : Int))) = .val (.pointer (some ⟨b, i * 5, none⟩)) h := by
  show indexAddrBy h ⟨b, 0, none⟩ i n (Am.size TT 26) = _
  rw [s26]
  show cond (Nat.ble (Nat.succ i) n) (Res.val (.pointer (some ((⟨b, 0, none⟩ : Addr).add (i * 5)))) h) .fail = _
  rw [Nat.ble_eq_true_of_le hi, addr_add, Nat.zero_add]; rfl
/-- The cells of one element. -/
def five (c : List Value) (i : Nat) : List Value := (c.drop (i * 5)).take 5
theorem p26_at {c : List Value} {i n : Nat} (hc : c.length = n * 5) (hi : i < n) : partOf TT 26 c (i * 5) = some (.agg ⟨five c i⟩) := by
  rw [part_agg agg26 s26, cut_some (by omega)]; rfl
theorem five_len {c : List Value} {i n : Nat} (hc : c.length = n * 5) (hi : i < n) : (five c i).length = 5 := by
  simp [five, hc]; omega
theorem five_one {c : List Value} {i : Nat} (ho : oneCells c = true) : oneCells (five c i) = true := by
  rw [oneCells_iff]
  intro v hv
  exact (oneCells_iff c).1 ho v (List.mem_of_mem_drop (List.mem_of_mem_take hv))
theorem storeAt26 {h : H} {b i n : Nat} {c vs : List Value} {g : Bool} (hg : h.get b = some (.cells c 26 g)) (hc : c.length = n * 5) (hi : i < n) (hl : vs.length = 5) (ho : oneCells vs = true) :
    storeAt TT h 26 (.agg ⟨vs⟩) (.pointer (some ⟨b, i * 5, none⟩)) = some (h.put b (.cells (c.take (i * 5) ++ (vs ++ c.drop (i * 5 + 5))) 26 g)) :=
  storeAt_ptr (v := .agg ⟨vs⟩) (n := 5) s26 hl ho hg (by omega)
theorem put5_len {c vs : List Value} {i n : Nat} (hc : c.length = n * 5) (hi : i < n) (hl : vs.length = 5) : (c.take (i * 5) ++ (vs ++ c.drop (i * 5 + 5))).length = n * 5 := by
  simp [hc, hl]; omega
theorem put5_one {c vs : List Value} {i : Nat} (ho : oneCells c = true) (hv : oneCells vs = true) : oneCells (c.take (i * 5) ++ (vs ++ c.drop (i * 5 + 5))) = true := by
  rw [oneCells_iff]
  intro v hm
  rcases List.mem_append.1 hm with hm | hm
  · exact (oneCells_iff c).1 ho v (List.mem_of_mem_take hm)
  · rcases List.mem_append.1 hm with hm | hm
    · exact (oneCells_iff vs).1 hv v hm
    · exact (oneCells_iff c).1 ho v (List.mem_of_mem_drop hm)
section
variable {ev : Task → Ans} {b n i j : Nat} {h : H} {c : List Value} {tm : Tr Value} (hb : h.base = 0) (hlt : b < h.next) (hg : h.get b = some (.cells c 26 true)) (hc : c.length = n * 5) (ho : oneCells c = true)
    (t0 : tm.get 0 = some (.slice (some ⟨b, 0, none⟩) n n)) (t2 : tm.get 2 = some (i64 i)) (t3 : tm.get 3 = some (i64 j))
include hb hlt hg hc ho t0 t2 t3
theorem f40_swap (hi : i < n) (hj : j < n) :
    EndsAs (fun tm' h' => h'.base = 0 ∧ h'.next = h.next ∧ (∀ j, j ≠ b → h'.get j = h.get j) ∧ (∃ c', h'.get b = some (.cells c' 26 true) ∧ c'.length = n * 5 ∧ oneCells c' = true) ∧ tm'.get 0 = tm.get 0 ∧ tm'.get 2 = tm.get 2 ∧ tm'.get 3 = tm.get 3) (fun _ _ => False) (fun _ _ _ => False)
      (runRegion TT ev ⟨40, none⟩ f40R true ⟨tm, [], h, none⟩) := by
  rw [reg_drawn]
  have a13 := apartAll_both (x := ⟨13, bit b, bit b⟩) (apart_before (i := 13) (a := bit b) (b := bit b) (c := bit b) (d := 0) f40_13_11) (apartAll_both (apart_before (i := 13) (a := bit b) (b := bit b) (c := bit b) (d := 0) f40_13_7) (l := []) rfl)
  have a15 := apartAll_both (x := ⟨15, bit b, bit b⟩) (apart_before (i := 15) (a := bit b) (b := bit b) (c := bit b) (d := bit b) f40_15_13) (apartAll_both (apart_before (i := 15) (a := bit b) (b := bit b) (c := bit b) (d := 0) f40_15_11) (apartAll_both (apart_before (i := 15) (a := bit b) (b := bit b) (c := bit b) (d := 0) f40_15_7) (l := []) rfl))
  have e : befores f40R.toList 0 .nil = f40bs := rfl
  rw [e]
  generalize f40bs = bs at a13 a15
  have fi := five_len hc hi
  have fj := five_len hc hj
  have oi := five_one (i := i) ho
  have oj := five_one (i := j) ho
  have e1 : storeAt TT h.fresh 26 (.agg ⟨five c j⟩) (.pointer (some ⟨b, i * 5, none⟩)) = some (h.fresh.put b (.cells (c.take (i * 5) ++ (five c j ++ c.drop (i * 5 + 5))) 26 true)) := storeAt26 (by simp; exact hg) hc hi fj oj
  have l1 := put5_len (vs := five c j) hc hi fj
  have o1 := put5_one (i := i) ho oj
  generalize c.take (i * 5) ++ (five c j ++ c.drop (i * 5 + 5)) = c1 at e1 l1 o1
  have e2 : storeAt TT (h.put b (.cells c1 26 true)).fresh 26 (.agg ⟨five c i⟩) (.pointer (some ⟨b, j * 5, none⟩)) = some ((h.put b (.cells c1 26 true)).fresh.put b (.cells (c1.take (j * 5) ++ (five c i ++ c1.drop (j * 5 + 5))) 26 true)) := storeAt26 (by simp) l1 hj fi oi
  have l2 := put5_len (vs := five c i) l1 hj fi
  have o2 := put5_one (i := j) o1 oi
  generalize c1.take (j * 5) ++ (five c i ++ c1.drop (j * 5 + 5)) = c2 at e2 l2 o2
  simp +contextual [f40R, regOps, piece, sel, sub, Tryz.f40, t0, t2, t3, hb, hlt, hg, hi, hj, p26_at hc hi, p26_at hc hj, e1, e2, done_put, a13, a15, l2, o2]
theorem f40_iter (hij : i < j) (hj : j < n) (hn : n ≤ big) :
    EndsAs (fun tm' h' => h'.base = 0 ∧ h'.next = h.next ∧ (∀ j, j ≠ b → h'.get j = h.get j) ∧ (∃ c', h'.get b = some (.cells c' 26 true) ∧ c'.length = n * 5 ∧ oneCells c' = true) ∧ tm'.get 0 = tm.get 0 ∧ tm'.get 2 = some (i64 (i + 1 : Nat)) ∧ tm'.get 3 = some (i64 (j - 1 : Nat))) (fun _ _ => False) (fun _ _ _ => False)
      (runCode TT ev ⟨40, none⟩ f40B ⟨tm, [], h, none⟩) := by
  rw [f40B_split]
  have w1 := wrapN (n := i + 1) (by omega)
  have w2 : IntKind.i64.wrap ((j : Int) - 1) = (j - 1 : Nat) := by rw [← wrapN (n := j - 1) (by omega)]; congr 1; omega
  simp at w1
  refine ends_seqC (N' := fun tm' h' => h' = h ∧ tm'.get 0 = tm.get 0 ∧ tm'.get 2 = tm.get 2 ∧ tm'.get 3 = tm.get 3) (by simp +contextual [piece, sel, sub, Tryz.f40, t0, t2, t3, hij]) fun tm' h' ⟨e, s0, s2, s3⟩ => ?_
  subst e
  refine ends_seqC (N' := fun tm2 h2 => h2.base = 0 ∧ h2.next = h'.next ∧ (∀ j, j ≠ b → h2.get j = h'.get j) ∧ (∃ c', h2.get b = some (.cells c' 26 true) ∧ c'.length = n * 5 ∧ oneCells c' = true) ∧ tm2.get 0 = tm'.get 0 ∧ tm2.get 2 = tm'.get 2 ∧ tm2.get 3 = tm'.get 3) (by
    rw [run_block]
    exact ends_block ((f40_swap (tm := tm') hb hlt hg hc ho (by rw [s0, t0]) (by rw [s2, t2]) (by rw [s3, t3]) (by omega) hj).mono (fun _ _ q => q) (fun _ _ q => q) (fun _ _ _ q => q.elim))) fun tm2 h2 ⟨k1, k2, k3, k4, u0, u2, u3⟩ => ?_
  rw [s2, t2] at u2
  rw [s3, t3] at u3
  simp +contextual [piece, sel, sub, Tryz.f40, u2, u3, w1, w2]
  exact ⟨k1, k2, k3, k4, by rw [u0, s0]⟩
end
theorem f40_stop {ev : Task → Ans} {i : Nat} {h : H} {tm : Tr Value} {j : Int} (t2 : tm.get 2 = some (i64 i)) (hij : ¬ (i : Int) < j) (t3 : tm.get 3 = some (i64 j)) :
    EndsAs (fun _ _ => False) (fun _ _ => False) (fun k tm' h' => k = 0 ∧ h' = h) (runCode TT ev ⟨40, none⟩ f40B ⟨tm, [], h, none⟩) := by
  simp +contextual [f40B, piece, sel, sub, Tryz.f40, t2, t3, hij]
/-- Turned round, of the same shape. -/
theorem rev40 {C : Con} (hC : ∀ a h, C 40 a h = none) {lo : Nat} {v : Value} {h : H} {n m : Nat} (a : ArgV lo v h n) (hb : h.base = 0) (hn : n < 1073741824) (hm : n + 1 ≤ m) :
    ∃ h', evK TT C (m + 1) (call0 40 [v] h) = .ret (.tuple #[]) h' none ∧ ArgV lo v h' n ∧ h'.base = 0 ∧ h'.next = h.next ∧ ∀ j, j < lo → h'.get j = h.get j := by
  have wn : IntKind.i64.wrap ((n : Int) - 1) = (n : Int) - 1 := by simp [IntKind.wrap, IntKind.bits, IntKind.signed]; omega
  have key : EndsAs (fun _ h' => ArgV lo v h' n ∧ h'.base = 0 ∧ h'.next = h.next ∧ ∀ j, j < lo → h'.get j = h.get j) (fun _ _ => False) (fun _ _ _ => False)
      (runCode TT (evK TT C m) ⟨40, none⟩ (.seq (piece Tryz.f40 [false]) (.block 0 (.loop f40B))) ⟨initT [v] 0 .nil, [], h, none⟩) := by
    rcases a with ⟨rfl, rfl⟩ | ⟨b, c, h1, h2, rfl, h4, h5, h6⟩
    · refine ends_seqC (N' := fun tm' h' => h' = h ∧ tm'.get 2 = some (i64 (0 : Nat)) ∧ tm'.get 3 = some (i64 (-1))) (by simp at wn; simp [piece, sel, sub, Tryz.f40, wn]) fun tm h' ⟨e, t2, t3⟩ => ?_
      rw [e]
      refine ends_loop (N := fun _ h' => ArgV lo (.slice none 0 0) h' 0 ∧ h'.base = 0 ∧ h'.next = h.next ∧ ∀ j, j < lo → h'.get j = h.get j) 0 (fun j tm h' => h' = h ∧ tm.get 2 = some (i64 (0 : Nat)) ∧ tm.get 3 = some (i64 (-1))) 0 ⟨rfl, t2, t3⟩ (by omega) ?_
      rintro j tm h' m ⟨rfl, t2, t3⟩ -
      exact (f40_stop t2 (by omega) t3).mono (fun _ _ q => q.elim) (fun _ _ q => q.elim) (fun _ _ h' q => ⟨q.1, by rw [q.2]; exact ⟨.inl ⟨rfl, rfl⟩, hb, rfl, fun _ _ => rfl⟩⟩)
    · refine ends_seqC (N' := fun tm' h' => h' = h ∧ tm'.get 0 = some (.slice (some ⟨b, 0, none⟩) n n) ∧ tm'.get 2 = some (i64 (0 : Nat)) ∧ tm'.get 3 = some (i64 ((n : Int) - 1))) (by simp [piece, sel, sub, Tryz.f40, wn]) fun tm h' ⟨e, t0, t2, t3⟩ => ?_
      rw [e]
      refine ends_loop (N := fun _ h' => ArgV lo (.slice (some ⟨b, 0, none⟩) n n) h' n ∧ h'.base = 0 ∧ h'.next = h.next ∧ ∀ j, j < lo → h'.get j = h.get j) 0
        (fun k tm h' => ∃ (i : Nat) (J : Int), k = n - i ∧ J < n ∧ h'.base = 0 ∧ h'.next = h.next ∧ (∀ j, j ≠ b → h'.get j = h.get j) ∧ (∃ c, h'.get b = some (.cells c 26 true) ∧ c.length = n * 5 ∧ oneCells c = true) ∧
          tm.get 0 = some (.slice (some ⟨b, 0, none⟩) n n) ∧ tm.get 2 = some (i64 i) ∧ tm.get 3 = some (i64 J)) n ⟨0, (n : Int) - 1, by omega, by omega, hb, rfl, fun _ _ => rfl, ⟨c, h4, h5, h6⟩, t0, t2, t3⟩ (by omega) ?_
      rintro k tm h' m ⟨i, J, rfl, hJ, k1, k2, k3, ⟨c, c1, c2, c3⟩, t0, t2, t3⟩ -
      by_cases hij : (i : Int) < J
      · obtain ⟨j, rfl⟩ : ∃ j : Nat, J = j := ⟨J.toNat, by omega⟩
        refine (f40_iter (b := b) (n := n) (i := i) (j := j) k1 (by rw [k2]; exact h2) c1 c2 c3 t0 t2 t3 (by omega) (by omega) (by unfold big; omega)).mono (fun tm' h2 q => ?_) (fun _ _ q => q.elim) (fun _ _ _ q => q.elim)
        obtain ⟨q1, q2, q3, q4, q5, q6, q7⟩ := q
        exact ⟨n - (i + 1), by omega, i + 1, ((j - 1 : Nat) : Int), rfl, by omega, q1, by rw [q2, k2], fun x hx => by rw [q3 x hx, k3 x hx], q4, by rw [q5, t0], q6, q7⟩
      · exact (f40_stop t2 hij t3).mono (fun _ _ q => q.elim) (fun _ _ q => q.elim) (fun _ _ hz q => ⟨q.1, by
          rw [q.2]
          exact ⟨.inr ⟨b, c, h1, by rw [k2]; exact h2, rfl, c1, c2, c3⟩, k1, k2, fun x hx => k3 x (by omega)⟩⟩)
  rcases key.cases with ⟨tm, h', e, q⟩ | ⟨_, _, _, q⟩ | ⟨_, _, _, _, q⟩
  · refine ⟨h', ?_, q⟩
    obtain ⟨m, rfl⟩ : ∃ k, m = k + 1 := ⟨m - 1, by omega⟩
    rw [evK_call _ (hC _ _), fn_run (vs := []) (h2 := h') (ab := none) TT.f40 f40_split rfl (by rw [e]; simp [Tryz.f40])]
    rfl
  · cases q
  · cases q
end Go.Proofs.YtjhjnopfdnjcfaaGreat
