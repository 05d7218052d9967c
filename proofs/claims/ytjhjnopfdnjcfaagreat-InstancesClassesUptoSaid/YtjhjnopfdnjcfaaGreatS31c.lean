/- Slices of terms that a run makes: what is appended, found, written. -/
import Derived.Test.YtjhjnopfdnjcfaaGreatG31g
set_option linter.unusedVariables false
set_option linter.unusedSimpArgs false
set_option linter.unusedSectionVars false
set_option linter.all false
namespace Go.Am
open Go
variable {T : Tab}
theorem oneCells_iff : ∀ l : List Value, oneCells l = true ↔ ∀ v ∈ l, oneCells [v] = true
  | [] => by simp; rfl
  | v :: l => by
    have ih := oneCells_iff l
    have e : oneCells (v :: l) = (oneCells [v] && oneCells l) := by cases v <;> rfl
    rw [e, List.forall_mem_cons, Bool.and_eq_true, ih]
theorem lenL_take (l : List Value) (k : Nat) (h : k ≤ l.length) : (l.take k).length = k := by simp [h]
namespace Sym
@[simp] theorem h_drop_next (h : H) (b : Nat) : (h.drop b).next = h.next := drop_next h b
@[simp] theorem h_drop_base (h : H) (b : Nat) : (h.drop b).base = h.base := drop_base h b
@[simp] theorem h_drop_get (h : H) (b j : Nat) : (h.drop b).get j = if j = b then none else h.get j := by
  by_cases e : j = b
  · rw [if_pos e, e]; exact drop_get_eq h b
  · rw [if_neg e]; exact drop_get_ne h e
end Sym
end Go.Am
namespace Go.Proofs.YtjhjnopfdnjcfaaGreat
open Go Go.Am Go.Proofs Go.Am.Sym Go.Am.Eu
set_option maxRecDepth 10000
theorem info26 : (TT.info.get 26).map (fun i => (i.size, Nat.ble i.bytes 65536)) = some (5, true) := by kernel_rfl
theorem zeroN26 : isSomeL (zeroN TT 26) = true := by kernel_rfl
theorem build26 (h : H) (a b c d e : Value) : buildSliceOf TT h 1 (some (.slice 26)) (some [(0, .agg ⟨[a, b, c, d, e]⟩)]) = .val (.slice (some ⟨h.next, 0, none⟩) 1 1) (h.new (.cells [a, b, c, d, e] 26 false)) := by kernel_rfl
@[simp] theorem build_tv (h : H) (t : Term) : buildSliceOf TT h 1 (some (.slice 26)) (some [(0, tv t)]) = .val (.slice (some ⟨h.next, 0, none⟩) 1 1) (h.new (.cells (cellsL (tv t)) 26 false)) := by
  rw [cells_tv, tv_eq]; exact build26 ..
theorem appL_eq (l r : List Value) : appL l r = l ++ r := by
  induction l with
  | nil => rfl
  | cons x l ih => show x :: appL l r = _; rw [ih]; rfl
theorem one_tv (t : Term) : oneCells (cellsL (tv t)) = true := by rw [cells_tv]; rfl
theorem len_tv (t : Term) : (cellsL (tv t)).length = 5 := by rw [cells_tv]; rfl
theorem first_tv {h : H} {B : Nat} {t : Term} {e : TypeId} {g : Bool} (hB : h.get B = some (.cells (cellsL (tv t)) e g)) : firstCells h 1 5 (.slice (some ⟨B, 0, none⟩) 1 1) = some (cellsL (tv t)) := by
  show rowCells 0 (Nat.mul 1 5) (blockCells (h.get B)) = _
  rw [hB]
  show cut (cellsL (tv t)) 0 5 = _
  rw [cut_some (by rw [len_tv]; omega), List.drop_zero, List.take_of_length_le (by rw [len_tv]; omega)]
theorem append_nil {h : H} {B : Nat} {t : Term} {e : TypeId} {g : Bool} (hB : h.get B = some (.cells (cellsL (tv t)) e g)) :
    appendOf TT h (.slice (some ⟨B, 0, none⟩) 1 1) (some (.slice 26)) (some (.slice 26)) (.slice none 0 0) (some 1) = .val (.slice (some ⟨h.next, 0, none⟩) 1 1) ((h.touch B).new (.cells (cellsL (tv t)) 26 true)) := by
  have hi := info26
  cases hT : TT.info.get 26 with
  | none => rw [hT] at hi; cases hi
  | some i =>
    rw [hT] at hi
    simp at hi
    show appendSz TT h 26 (.slice none 0 0) (.slice (some ⟨B, 0, none⟩) 1 1) none 0 0 1 (TT.info.get 26) = _
    rw [hT]
    unfold appendSz
    dsimp only
    rw [hi.1, first_tv hB, zeroN26]
    have h2 : Nat.ble i.bytes 65536 = true := Nat.ble_eq_true_of_le hi.2
    rw [h2]
    show cond (cond (Nat.beq (lenL (cellsL (tv t))) 5) (oneCells (cellsL (tv t))) false) (appendNew (h.touch B) 26 1 (cellsL (tv t))) .fail = _
    rw [lenL_eq, len_tv, one_tv]
    show Res.val (.slice (some ⟨(h.touch B).next, 0, none⟩) 1 1) _ = _
    rw [touch_next]
theorem append_some {h : H} {b B n : Nat} {t : Term} {e : TypeId} {g : Bool} {c : List Value} (hb : h.get b = some (.cells c 26 true)) (hc : c.length = n * 5) (hB : h.get B = some (.cells (cellsL (tv t)) e g)) (hn : n + 1 ≤ 1073741824) :
    appendOf TT h (.slice (some ⟨B, 0, none⟩) 1 1) (some (.slice 26)) (some (.slice 26)) (.slice (some ⟨b, 0, none⟩) n n) (some 1) =
      .val (.slice (some ⟨h.next, 0, none⟩) (n + 1) (n + 1)) ((((h.touch b).touch B).drop b).new (.cells (c ++ cellsL (tv t)) 26 true)) := by
  have hi := info26
  cases hT : TT.info.get 26 with
  | none => rw [hT] at hi; cases hi
  | some i =>
    rw [hT] at hi
    simp at hi
    show appendSz TT h 26 (.slice (some ⟨b, 0, none⟩) n n) (.slice (some ⟨B, 0, none⟩) 1 1) (some ⟨b, 0, none⟩) n n 1 (TT.info.get 26) = _
    rw [hT]
    unfold appendSz
    dsimp only
    have h2 : Nat.ble i.bytes 65536 = true := Nat.ble_eq_true_of_le hi.2
    have h3 : Nat.ble (Nat.add n 1) 1073741824 = true := Nat.ble_eq_true_of_le hn
    have h4 : firstCells h n 5 (.slice (some ⟨b, 0, none⟩) n n) = some c := by
      show rowCells 0 (Nat.mul n 5) (blockCells (h.get b)) = _
      rw [hb]
      show cut c 0 (n * 5) = _
      rw [cut_some (by omega), List.drop_zero, List.take_of_length_le (by omega)]
    rw [hi.1, first_tv hB, zeroN26, h2, h3, h4]
    show cond (cond (Nat.beq (lenL (cellsL (tv t))) 5) (cond (Nat.beq (lenL c) (Nat.mul n 5)) (oneCells (cellsL (tv t))) false) false) (appendRow TT ((h.touch b).touch B) b 0 26 5 n n 1 c (cellsL (tv t)) (((h.touch b).touch B).get b)) .fail = _
    rw [lenL_eq, len_tv, one_tv, lenL_eq, nbeq_eq (show c.length = Nat.mul n 5 from hc), touch_get, touch_get, hb]
    show appendRow TT ((h.touch b).touch B) b 0 26 5 n n 1 c (cellsL (tv t)) (some (.cells c 26 true)) = _
    unfold appendRow
    have h5 : Nat.ble (Nat.add n 1) n = false := by
      cases h : Nat.ble (Nat.add n 1) n with
      | false => rfl
      | true => have : n + 1 ≤ n := Nat.le_of_ble_eq_true h; omega
    show onB _ _ (Nat.ble (Nat.add n 1) n) = _
    rw [h5]
    show appendOut TT ((h.touch b).touch B) b 26 5 (Nat.add n 1) (Nat.add 0 (Nat.mul n 5)) (appL c (cellsL (tv t))) c 26 true = _
    unfold appendOut
    rw [s26, lenL_eq, nbeq_eq (show Nat.add 0 (Nat.mul n 5) = c.length by rw [hc]; exact Nat.zero_add _), appL_eq]
    show Res.val (.slice (some ⟨(((h.touch b).touch B).drop b).next, 0, none⟩) (n + 1) (n + 1)) _ = _
    rw [drop_next, touch_next, touch_next]
/-- A slice of n terms, of which only the shape is known, in a block above. -/
def ArgV (lo : Nat) (v : Value) (h : H) (n : Nat) : Prop :=
  (n = 0 ∧ v = .slice none 0 0) ∨ ∃ b c, lo ≤ b ∧ b < h.next ∧ v = .slice (some ⟨b, 0, none⟩) n n ∧ h.get b = some (.cells c 26 true) ∧ c.length = n * 5 ∧ oneCells c = true
theorem ArgV.len {lo : Nat} {v : Value} {h : H} {n : Nat} (a : ArgV lo v h n) : lenOf v = some n := by
  rcases a with ⟨rfl, rfl⟩ | ⟨b, c, _, _, rfl, _⟩ <;> rfl
/-- Append one term to such a slice. -/
theorem ArgV.append {lo : Nat} {v : Value} {h : H} {n B : Nat} {t : Term} {e : TypeId} {g : Bool} (a : ArgV lo v h n) (h0 : h.base = 0) (hl : lo ≤ h.next) (hn : n + 1 ≤ 1073741824) (hB : h.get B = some (.cells (cellsL (tv t)) e g)) :
    ∃ v' h', appendOf TT h (.slice (some ⟨B, 0, none⟩) 1 1) (some (.slice 26)) (some (.slice 26)) v (some 1) = .val v' h' ∧ ArgV lo v' h' (n + 1) ∧ h'.base = 0 ∧ h.next ≤ h'.next ∧ ∀ j, j < lo → h'.get j = h.get j := by
  rcases a with ⟨rfl, rfl⟩ | ⟨b, c, hlo, hb, rfl, hg, hc, ho⟩
  · refine ⟨_, _, append_nil hB, .inr ⟨h.next, cellsL (tv t), hl, ?_, rfl, ?_, ?_, one_tv t⟩, ?_, ?_, fun j hj => ?_⟩
    · simp
    · simp
    · rw [len_tv]
    · simp [h0]
    · simp
    · have : ¬ j = h.next := by omega
      simp [this]
  · refine ⟨_, _, append_some hg hc hB hn, .inr ⟨h.next, c ++ cellsL (tv t), hl, ?_, rfl, ?_, ?_, ?_⟩, ?_, ?_, fun j hj => ?_⟩
    · simp
    · simp
    · rw [List.length_append, len_tv, hc]; omega
    · rw [oneCells_iff]
      intro x hx
      rcases List.mem_append.1 hx with hx | hx
      · exact (oneCells_iff _).1 ho x hx
      · exact (oneCells_iff _).1 (one_tv t) x hx
    · simp [h0]
    · simp
    · have h1 : ¬ j = h.next := by omega
      have h2 : ¬ j = b := by omega
      simp [h1, h2]
end Go.Proofs.YtjhjnopfdnjcfaaGreat
/- Layer 31: the end of a telescope. -/
namespace Go.Am
open Go
theorem apart_other {a b : Nat} (h : a ≠ b) (bj i j : Nat) : Am.apart bj ⟨i, bit a, bit a⟩ ⟨j, bit b, 0⟩ = true := by
  unfold Am.apart
  rw [disj_bits h, disj_zero_left, disj_zero_right]
  cases hasBit bj j <;> rfl
theorem apartAll_one (bj : Nat) (x y : Note) : apartAll bj x [y] = Am.apart bj x y := by
  rw [apartAll_cons]
  show cond (Am.apart bj x y) true false = _
  cases Am.apart bj x y <;> rfl
@[simp] theorem lenOf_slice (a : Option Addr) (n c : Nat) : lenOf (.slice a n c) = some n := rfl
end Go.Am
namespace Go.Am.Eu
/-- Down one kid, as long as there are two. -/
inductive Goes (k : Int) (i : Nat) : Term → Term → Prop
  | stop {t : Term} (h : ¬ (t.kind = k ∧ t.kids.length = 2)) : Goes k i t t
  | step {t c u : Term} (h : t.kind = k) (h2 : t.kids.length = 2) (hc : t.kids[i]? = some c) (hg : Goes k i c u) : Goes k i t u
theorem Goes.same {k : Int} {i : Nat} {t u v : Term} (h : Goes k i t u) (h' : Goes k i t v) : u = v := by
  induction h with
  | stop h => cases h' with
    | stop _ => rfl
    | step h1 h2 _ _ => exact absurd ⟨h1, h2⟩ h
  | step h1 h2 hc _ ih => cases h' with
    | stop h => exact absurd ⟨h1, h2⟩ h
    | step _ _ hc' hg => rw [hc] at hc'; injection hc' with e; subst e; exact ih hg
end Go.Am.Eu
namespace Go.Proofs.YtjhjnopfdnjcfaaGreat
open Go Go.Am Go.Proofs Go.Am.Sym Go.Am.Eu
set_option maxRecDepth 10000
abbrev z5 : List Value := [i64 0, i64 0, .string ⟨#[]⟩, .slice none 0 0, .slice none 0 0]
theorem two_kids {t : Term} (h : t.kids.length = 2) : ∃ a b, t.kids = [a, b] := by
  match hk : t.kids, h with
  | [a, b], _ => exact ⟨a, b, rfl⟩
@[simp] theorem idx2_0 (h : H) (k : IntKind) (a b : Term) : indexAddrOf TT h (some (.slice 26)) (some (termsV [a, b])) (some (.int k 0)) = .val (dptr (tv a) 0) h :=
  idx_terms (l := [a, b]) (i := 0) (by simp)
@[simp] theorem idx2_1 (h : H) (k : IntKind) (a b : Term) : indexAddrOf TT h (some (.slice 26)) (some (termsV [a, b])) (some (.int k 1)) = .val (dptr (tv b) 0) h :=
  idx_terms (l := [a, b]) (i := 1) (by simp)
/-- Where such a walk stands: at this term, with so many terms behind it. -/
structure WalkSt (p r : Nat) (N : Nat) (h0 : H) (cur : Term) (n : Nat) (tm : Tr Value) (h : H) : Prop where
  base : h.base = 0
  next : N + 2 ≤ h.next
  cur : h.get N = some (.cells (cellsL (tv cur)) 26 false)
  out : h.get (N + 1) = some (.cells z5 26 false)
  tp : tm.get p = some (.pointer (some ⟨N, 0, none⟩))
  tr : tm.get r = some (.pointer (some ⟨N + 1, 0, none⟩))
  args : ∃ v, tm.get 4 = some v ∧ ArgV (N + 2) v h n
  old : ∀ b, b < N → h.get b = h0.get b
theorem nodesL_pos (t : Term) : 1 ≤ nodes t := by cases t; rw [nodes_mk]; omega
/-! ALL22 -/
theorem TT.f22 : TT.func 22 = some Tryz.f22 := by kernel_rfl
noncomputable def f22B : Code := piece Tryz.f22 [true,true,false,false,false]
theorem f22_split : Tryz.f22.body = some (.seq (piece Tryz.f22 [false]) (.seq (piece Tryz.f22 [true,false]) (.seq (.block 0 (.loop f22B)) (piece Tryz.f22 [true,true,true])))) := rfl
section
variable {ev : Task → Ans} {N n : Nat} {h0 h : H} {cur : Term} {tm : Tr Value} (st : WalkSt 1 3 N h0 cur n tm h)
include st
theorem f22_iter (hn : n + 1 ≤ 1073741824) (hk : cur.kind = 6) (h2 : cur.kids.length = 2) :
    EndsAs (fun tm' h' => ∃ c, cur.kids[1]? = some c ∧ WalkSt 1 3 N h0 c (n + 1) tm' h') (fun _ _ => False) (fun _ _ _ => False) (runCode TT ev ⟨22, none⟩ f22B ⟨tm, [], h, none⟩) := by
  obtain ⟨hb, hnx, hc, ho, t1, t3, ⟨v, t4, ha⟩, hold⟩ := st
  obtain ⟨a, b, hkids⟩ := two_kids h2
  have q1 : ¬ N = h.next := by omega
  have q2 : ¬ N + 1 = h.next := by omega
  obtain ⟨v', h', e, ha', hb', hn', hkeep⟩ := ArgV.append (lo := N + 2) (v := v) (h := h.new (.cells (cellsL (tv a)) 26 false)) (n := n) (B := h.next) (t := a) (e := 26) (g := false) (by
      rcases ha with ⟨x, y⟩ | ⟨b, c, l1, l2, l3, l4, l5, l6⟩
      · exact .inl ⟨x, y⟩
      · exact .inr ⟨b, c, l1, by simp; omega, l3, by rw [h_new_get, if_neg (by omega)]; exact l4, l5, l6⟩) (by simp [hb]) (by simp; omega) hn (by simp)
  simp at hn'
  have k1 : h'.get N = some (.cells (cellsL (tv cur)) 26 false) := by rw [hkeep N (by omega)]; simp [q1, hc]
  have k2 : h'.get (N + 1) = some (.cells z5 26 false) := by rw [hkeep (N + 1) (by omega)]; simp [q2, ho]
  simp +contextual [f22B, piece, sel, sub, Tryz.f22, t1, t3, t4, hb, hc, hk, h2, hkids, condK_if, e, k1, hb']
  refine ⟨by simp [hb'], by simp; omega, by simp, by simp [k2], by simp [t1], by simp [t3], ⟨v', by simp, ?_⟩, fun j hj => ?_⟩
  · rcases ha' with ⟨x, y⟩ | ⟨b, c, l1, l2, l3, l4, l5, l6⟩
    · exact .inl ⟨x, y⟩
    · exact .inr ⟨b, c, l1, by simp; omega, l3, by rw [h_put_get, if_neg (by omega)]; exact l4, l5, l6⟩
  · have q3 : ¬ j = N := by omega
    have q4 : ¬ j = h.next := by omega
    rw [h_put_get, if_neg q3, hkeep j (by omega), h_new_get, if_neg q4]; exact hold j hj
theorem f22_end (hk : ¬ (cur.kind = 6 ∧ cur.kids.length = 2)) :
    EndsAs (fun _ _ => False) (fun _ _ => False) (fun j tm' h' => j = 0 ∧ WalkSt 1 3 N h0 cur n tm' h') (runCode TT ev ⟨22, none⟩ f22B ⟨tm, [], h, none⟩) := by
  have st' := st
  obtain ⟨hb, hnx, hc, ho, t1, t3, ⟨v, t4, ha⟩, hold⟩ := st
  have key : ∀ tm', tm'.get 1 = tm.get 1 → tm'.get 3 = tm.get 3 → tm'.get 4 = tm.get 4 → WalkSt 1 3 N h0 cur n tm' h := fun tm' e1 e3 e4 => ⟨hb, hnx, hc, ho, by rw [e1]; exact t1, by rw [e3]; exact t3, ⟨v, by rw [e4]; exact t4, ha⟩, hold⟩
  by_cases h6 : cur.kind = 6
  · have h2 : ¬ (cur.kids.length : Int) = 2 := fun e => hk ⟨h6, by omega⟩
    simp +contextual [f22B, piece, sel, sub, Tryz.f22, t1, t3, t4, hb, hc, h6, h2, condK_if, key]
  · simp +contextual [f22B, piece, sel, sub, Tryz.f22, t1, t3, t4, hb, hc, h6, condK_if, key]
end
theorem f22_p0 {ev : Task → Ans} {t : Term} {h0 : H} (hb : h0.base = 0) : EndsAs (fun tm h => WalkSt 1 3 h0.next h0 t 0 tm h) (fun _ _ => False) (fun _ _ _ => False)
    (runCode TT ev ⟨22, none⟩ (.seq (piece Tryz.f22 [false]) (piece Tryz.f22 [true,false])) ⟨initT [tv t] 0 .nil, [], h0, none⟩) := by
  simp [piece, sel, sub, Tryz.f22]
  exact ⟨by simp [hb], by simp, by simp, by simp, by simp, by simp, ⟨_, by simp, .inl ⟨rfl, rfl⟩⟩, fun j hj => by
    have q1 : ¬ j = h0.next := by omega
    have q2 : ¬ j = h0.next + 1 := by omega
    simp [q1, q2]⟩
theorem f22_p3 {ev : Task → Ans} {N n : Nat} {h0 h : H} {cur : Term} {tm : Tr Value} (st : WalkSt 1 3 N h0 cur n tm h) :
    EndsAs (fun _ _ => False) (fun tm' h' => (∃ v, tm'.get 2 = some v) ∧ tm'.get 3 = some (.pointer (some ⟨N + 1, 0, none⟩)) ∧ h'.base = 0 ∧ N + 2 ≤ h'.next ∧ h'.get (N + 1) = some (.cells (cellsL (tv cur)) 26 false) ∧ ∀ b, b < N → h'.get b = h0.get b) (fun _ _ _ => False)
      (runCode TT ev ⟨22, none⟩ (piece Tryz.f22 [true,true,true]) ⟨tm, [], h, none⟩) := by
  obtain ⟨hb, hnx, hc, ho, t1, t3, ⟨v, t4, ha⟩, hold⟩ := st
  have q1 : N < h.next := by omega
  have q2 : N + 1 < h.next := by omega
  simp +contextual [piece, sel, sub, Tryz.f22, t1, t3, t4, hb, hc, ho, q1, q2, done_put, apartAll_one, apart_other]
  refine ⟨hnx, fun j hj => ?_⟩
  rw [if_neg (by omega)]; exact hold j hj
theorem all22 {C : Con} (hC : ∀ a h, C 22 a h = none) {t : Term} {h0 : H} {m : Nat} (hb : h0.base = 0) (hw : nodes t < 1073741824) (hm : nodes t + 1 ≤ m) :
    ∃ v u h', evK TT C (m + 1) (call0 22 [tv t] h0) = .ret (.tuple ⟨[v, tv u]⟩) h' none ∧ Goes 6 1 t u ∧ h'.base = 0 ∧ h0.next ≤ h'.next ∧ ∀ b, b < h0.next → h'.get b = h0.get b := by
  have key : EndsAs (fun _ _ => False) (fun tm' h' => ∃ cur, Goes 6 1 t cur ∧ (∃ v, tm'.get 2 = some v) ∧ tm'.get 3 = some (.pointer (some ⟨h0.next + 1, 0, none⟩)) ∧ h'.base = 0 ∧ h0.next + 2 ≤ h'.next ∧ h'.get (h0.next + 1) = some (.cells (cellsL (tv cur)) 26 false) ∧ ∀ b, b < h0.next → h'.get b = h0.get b) (fun _ _ _ => False)
      (runCode TT (evK TT C m) ⟨22, none⟩ (.seq (piece Tryz.f22 [false]) (.seq (piece Tryz.f22 [true,false]) (.seq (.block 0 (.loop f22B)) (piece Tryz.f22 [true,true,true])))) ⟨initT [tv t] 0 .nil, [], h0, none⟩) := by
    refine ends_seq3 ((f22_p0 (ev := evK TT C m) (t := t) hb).mono (fun _ _ q => q) (fun _ _ q => q.elim) (fun _ _ _ q => q)) fun tm h st => ends_seqC (N' := fun tm h => ∃ cur n, Goes 6 1 t cur ∧ WalkSt 1 3 h0.next h0 cur n tm h) ?_ fun tm h ⟨cur, n, hg, st⟩ => (f22_p3 st).mono (fun _ _ q => q) (fun _ _ q => ⟨cur, hg, q⟩) (fun _ _ _ q => q)
    refine ends_loop (N := fun tm h => ∃ cur n, Goes 6 1 t cur ∧ WalkSt 1 3 h0.next h0 cur n tm h) 0 (fun j tm h => ∃ cur n, j = nodes cur ∧ n + nodes cur ≤ nodes t ∧ (∀ u, Goes 6 1 cur u → Goes 6 1 t u) ∧ WalkSt 1 3 h0.next h0 cur n tm h) (nodes t) ⟨t, 0, rfl, by omega, fun _ h => h, st⟩ (by omega) ?_
    rintro j tm h m ⟨cur, n, rfl, hn, hg, st⟩ -
    by_cases hk : cur.kind = 6 ∧ cur.kids.length = 2
    · refine (f22_iter st (by have := nodesL_pos cur; omega) hk.1 hk.2).mono (fun tm' h' q => ?_) (fun _ _ q => q.elim) (fun _ _ _ q => q.elim)
      obtain ⟨c, hc, st'⟩ := q
      have := nodes_kid (List.mem_of_getElem? hc)
      exact ⟨nodes c, by omega, c, n + 1, rfl, by omega, fun u hu => hg u (.step hk.1 hk.2 hc hu), st'⟩
    · exact (f22_end st hk).mono (fun _ _ q => q.elim) (fun _ _ q => q.elim) (fun i tm' h' q => ⟨q.1, cur, n, hg cur (.stop hk), q.2⟩)
  rcases key.cases with ⟨_, _, _, q⟩ | ⟨tm, h', e, cur, hg, ⟨v, t2⟩, t3, hb', hnx, hcell, hold⟩ | ⟨_, _, _, _, q⟩
  · cases q
  · refine ⟨v, cur, h', ?_, hg, hb', by omega, hold⟩
    obtain ⟨m, rfl⟩ : ∃ k, m = k + 1 := ⟨m - 1, by omega⟩
    rw [evK_call _ (hC _ _), fn_run (vs := [v, tv cur]) (h2 := h') (ab := none) TT.f22 f22_split rfl (by rw [e]; simp [Tryz.f22, t2, t3, hcell, hb'])]
    rfl
  · cases q
end Go.Proofs.YtjhjnopfdnjcfaaGreat
