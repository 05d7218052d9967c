/- Layer 35: slices of goals that are made. -/
import Derived.Test.YtkdfgoimgcegfaaGreatDoorG35f
import Derived.Test.YtkdfgoimgcegfaaGreatDoorT35d
import Derived.Test.YtkdfgoimgcegfaaGreatDoorG35n
set_option linter.unusedSectionVars false
set_option linter.unusedSimpArgs false
set_option linter.unusedVariables false
namespace Go.Proofs.YtkdfgoimgcegfaaGreatDoor
open Go Go.Am Go.Proofs Go.Am.Sym Go.Am.Eu
set_option maxRecDepth 10000
def gcs (l : List Goal) : List Value := (l.map goalV).flatMap cellsL
theorem gcs_cons (g : Goal) (l : List Goal) : gcs (g :: l) = cellsL (goalV g) ++ gcs l := by simp [gcs]
theorem gcs_one (g : Goal) : gcs [g] = cellsL (goalV g) := by simp [gcs]
theorem gcs_app (l r : List Goal) : gcs (l ++ r) = gcs l ++ gcs r := by simp [gcs]
theorem gcs_len : ∀ l : List Goal, (gcs l).length = l.length * 8
  | [] => rfl
  | g :: l => by rw [gcs_cons, List.length_append, gcs_len l, List.length_cons]; show 8 + _ = _; omega
theorem one_goal (g : Goal) : oneCells (cellsL (goalV g)) = true := rfl
theorem info58 : (TT.info.get 58).map (fun i => (i.size, Nat.ble i.bytes 65536)) = some (8, true) := by kernel_rfl
theorem zeroN58 : isSomeL (zeroN TT 58) = true := by kernel_rfl
theorem bs36k (h : H) (a b c d e f g i : Value) : buildSliceOf TT h 1 (some (.slice 58)) (some [(0, .agg ⟨[a, b, c, d, e, f, g, i]⟩)]) = .val (.slice (some ⟨h.next, 0, none⟩) 1 1) (h.new (.cells [a, b, c, d, e, f, g, i] 58 false)) := by kernel_rfl
@[simp] theorem bs36g (h : H) (g : Goal) : buildSliceOf TT h 1 (some (.slice 58)) (some [(0, goalV g)]) = .val (.slice (some ⟨h.next, 0, none⟩) 1 1) (h.new (.cells (cellsL (goalV g)) 58 false)) := bs36k ..
theorem append_goal {h : H} {b B n : Nat} {x : Goal} {e : TypeId} {g gr : Bool} {c : List Value} (hb : h.get b = some (.cells c 58 gr)) (hc : c.length = n * 8) (hB : h.get B = some (.cells (cellsL (goalV x)) e g)) (hn : n + 1 ≤ 1073741824) :
    appendOf TT h (.slice (some ⟨B, 0, none⟩) 1 1) (some (.slice 58)) (some (.slice 58)) (.slice (some ⟨b, 0, none⟩) n n) (some 1) =
      .val (.slice (some ⟨h.next, 0, none⟩) (n + 1) (n + 1)) ((cond gr (((h.touch b).touch B).drop b) ((h.touch b).touch B)).new (.cells (c ++ cellsL (goalV x)) 58 true)) := by
  have hi := info58
  cases hT : TT.info.get 58 with
  | none => rw [hT] at hi; cases hi
  | some i =>
    rw [hT] at hi
    simp at hi
    show appendSz TT h 58 (.slice (some ⟨b, 0, none⟩) n n) (.slice (some ⟨B, 0, none⟩) 1 1) (some ⟨b, 0, none⟩) n n 1 (TT.info.get 58) = _
    rw [hT]
    unfold appendSz
    dsimp only
    have h2 : Nat.ble i.bytes 65536 = true := Nat.ble_eq_true_of_le hi.2
    have h3 : Nat.ble (Nat.add n 1) 1073741824 = true := Nat.ble_eq_true_of_le hn
    have hf : firstCells h 1 8 (.slice (some ⟨B, 0, none⟩) 1 1) = some (cellsL (goalV x)) := by
      show rowCells 0 (Nat.mul 1 8) (blockCells (h.get B)) = _
      rw [hB]; rfl
    have h4 : firstCells h n 8 (.slice (some ⟨b, 0, none⟩) n n) = some c := by
      show rowCells 0 (Nat.mul n 8) (blockCells (h.get b)) = _
      rw [hb]
      show cut c 0 (n * 8) = _
      rw [cut_some (by omega), List.drop_zero, List.take_of_length_le (by omega)]
    rw [hi.1, hf, zeroN58, h2, h3, h4]
    show cond (cond true (cond (Nat.beq (lenL c) (Nat.mul n 8)) (oneCells (cellsL (goalV x))) false) false) (appendRow TT ((h.touch b).touch B) b 0 58 8 n n 1 c (cellsL (goalV x)) (((h.touch b).touch B).get b)) .fail = _
    rw [lenL_eq, nbeq_eq (show c.length = Nat.mul n 8 from hc), one_goal, touch_get, touch_get, hb]
    show appendRow TT ((h.touch b).touch B) b 0 58 8 n n 1 c (cellsL (goalV x)) (some (.cells c 58 gr)) = _
    unfold appendRow
    have h5 : Nat.ble (Nat.add n 1) n = false := by
      cases h : Nat.ble (Nat.add n 1) n with
      | false => rfl
      | true => have : n + 1 ≤ n := Nat.le_of_ble_eq_true h; omega
    show onB _ _ (Nat.ble (Nat.add n 1) n) = _
    rw [h5]
    show appendOut TT ((h.touch b).touch B) b 58 8 (Nat.add n 1) (Nat.add 0 (Nat.mul n 8)) (appL c (cellsL (goalV x))) c 58 gr = _
    unfold appendOut
    rw [s58, lenL_eq, nbeq_eq (show Nat.add 0 (Nat.mul n 8) = c.length by rw [hc]; show 0 + n * 8 = n * 8; omega), appL_eq']
    cases gr
    · show Res.val (.slice (some ⟨((h.touch b).touch B).next, 0, none⟩) (n + 1) (n + 1)) _ = _
      rw [touch_next, touch_next]; rfl
    · show Res.val (.slice (some ⟨(((h.touch b).touch B).drop b).next, 0, none⟩) (n + 1) (n + 1)) _ = _
      rw [drop_next, touch_next, touch_next]; rfl
/-- A slice of goals that was made. -/
def GoA (v : Value) (h : H) (L : List Goal) : Prop := ∃ b gr, b < h.next ∧ v = .slice (some ⟨b, 0, none⟩) L.length L.length ∧ h.get b = some (.cells (gcs L) 58 gr)
theorem GoA.dat {v : Value} {h : H} {L : List Goal} (a : GoA v h L) : DatV h.get v (goalsV L) := by
  obtain ⟨b, gr, _, rfl, hg⟩ := a
  refine DatV.slice (pre := []) (post := []) (es := L.map goalV) (ds := L.map goalV) (e := 58) (gr := gr) (sz := 8) (by rw [hg]; simp [gcs]) rfl (fun y hy => ?_) (by simp) (Nat.le_refl _) (DatL.pure (map_pure goalV_pure _))
  obtain ⟨s, _, rfl⟩ := List.mem_map.1 hy; rfl
theorem GoA.keep {v : Value} {h h' : H} {L : List Goal} (a : GoA v h L) (hn : h.next ≤ h'.next) (hk : ∀ j, blkOf v = some j → h'.get j = h.get j) : GoA v h' L := by
  obtain ⟨b, gr, hb, rfl, hg⟩ := a
  exact ⟨b, gr, by omega, rfl, by rw [hk b rfl]; exact hg⟩
theorem GoA.blk {v : Value} {h : H} {L : List Goal} (a : GoA v h L) {j : Nat} (hj : blkOf v = some j) : j < h.next := by
  obtain ⟨b, gr, hb, rfl, hg⟩ := a
  injection hj with hj; have hj : b = j := hj; omega
theorem GoA.append {v : Value} {h : H} {L : List Goal} {B : Nat} {x : Goal} {e : TypeId} {g : Bool} (a : GoA v h L) (h0 : h.base = 0) (hn : L.length + 1 ≤ 1073741824) (hB : h.get B = some (.cells (cellsL (goalV x)) e g)) :
    ∃ v' h', appendOf TT h (.slice (some ⟨B, 0, none⟩) 1 1) (some (.slice 58)) (some (.slice 58)) v (some 1) = .val v' h' ∧ GoA v' h' (L ++ [x]) ∧ Kept v h h' ∧ Young v h.next v' := by
  obtain ⟨b, gr, hb, rfl, hg⟩ := a
  refine ⟨_, _, append_goal hg (gcs_len L) hB hn, ⟨h.next, true, ?_, by simp, ?_⟩, ⟨?_, ?_, fun j hj hne => ?_⟩, fun b' hb' => ?_⟩
  · cases gr <;> simp
  · cases gr <;> simp [gcs_app, gcs_one]
  · cases gr <;> simp [h0]
  · cases gr <;> simp
  · have h1 : ¬ j = h.next := by omega
    have h2 : ¬ j = b := fun e => hne (by rw [e]; rfl)
    cases gr <;> simp [h1, h2]
  · right; simp [blkOf] at hb'; omega
end Go.Proofs.YtkdfgoimgcegfaaGreatDoor
/- Layer 35: Focus of the reference: the loop. -/
namespace Go.Proofs.YtkdfgoimgcegfaaGreatDoor
open Go Go.Am Go.Proofs Go.Am.Sym Go.Am.Eu
set_option maxRecDepth 10000
theorem TT.f14 : TT.func 14 = some Tryz.f14 := by kernel_rfl
noncomputable def f14B : Code := piece Tryz.f14 [true,true,true,false,true,false,false]
theorem f14_split : Tryz.f14.body = some (.seq (piece Tryz.f14 [false]) (.seq (piece Tryz.f14 [true,false]) (.seq (piece Tryz.f14 [true,true,false]) (.seq (.seq (piece Tryz.f14 [true,true,true,false,false]) (.block 0 (.loop f14B))) (.seq (piece Tryz.f14 [true,true,true,true,false]) (piece Tryz.f14 [true,true,true,true,true])))))) := rfl
theorem p58_goald (x : Goal) : loadAt TT H.empty 58 (dptr (goalV x) 0) = vres H.empty (partOf TT 58 (cellsL (goalV x)) 0) := rfl
structure FoSt (p : Proof) (k : Int) (L : List Goal) (tm : Tr Value) (h : H) : Prop where
  base : h.base = 0
  next : 1 < h.next
  c0 : h.get 0 = some (.cells (cellsL (proofV p)) 38 false)
  c1 : h.get 1 = some (.cells zp 38 false)
  t1 : tm.get 1 = some (i64 k)
  t2 : tm.get 2 = some (.pointer (some ⟨0, 0, none⟩))
  t4 : tm.get 4 = some (.pointer (some ⟨1, 0, none⟩))
  t6 : ∃ v, tm.get 6 = some v ∧ GoA v h L ∧ ∀ b, blkOf v = some b → 2 ≤ b
section
variable {ev : Task → Ans} {p : Proof} {k i : Nat} {L : List Goal} {tm : Tr Value} {h : H} (st : FoSt p k L tm h) (t7 : tm.get 7 = some (i64 i))
include st t7
theorem f14_iter (hi : i < p.goals.length) (hw1 : i + 1 ≤ big) (hL : L.length + 1 ≤ 1073741824) :
    EndsAs (fun tm' h' => FoSt p k (if i = k then L else L ++ [p.goals[i]]) tm' h' ∧ tm'.get 7 = some (i64 (i + 1 : Nat))) (fun _ _ => False) (fun _ _ _ => False)
      (runCode TT ev ⟨14, none⟩ f14B ⟨tm, [], h, none⟩) := by
  obtain ⟨hb, hn, c0, c1, t1, t2, t4, v, t6, hv, hv2⟩ := st
  have e2 := wrapN hw1
  simp at e2
  by_cases c : i = k
  · subst c
    simp [f14B, piece, sel, sub, Tryz.f14, t1, t2, t4, t6, t7, hb, c0, hi, e2, condK_if]
    exact ⟨hb, hn, c0, c1, by simp [t1], by simp [t2], by simp [t4], v, by simp [t6], hv, hv2⟩
  · have c' : ¬ ((i : Int) = (k : Int)) := by omega
    obtain ⟨v', h', e, hv', hk', hy'⟩ := (hv.keep (h' := h.new (.cells (cellsL (goalV p.goals[i])) 58 false)) (by simp) (fun j hj => by
      have := hv.blk hj
      have q : ¬ j = h.next := by omega
      simp [q])).append (B := h.next) (x := p.goals[i]) (e := 58) (g := false) (by simp [hb]) hL (by simp)
    obtain ⟨k1, k2, k3⟩ := hk'
    have g0 : h'.get 0 = some (.cells (cellsL (proofV p)) 38 false) := by
      have q : ¬ 0 = h.next := by omega
      rw [k3 0 (by simp) (fun e => by have := hv2 0 e; omega)]; simp [q, c0]
    have g1 : h'.get 1 = some (.cells zp 38 false) := by
      have q : ¬ 1 = h.next := by omega
      rw [k3 1 (by simp; omega) (fun e => by have := hv2 1 e; omega)]; simp [q, c1]
    have hn' : 1 < h'.next := by simp at k2; omega
    have hl : lenOf (.slice (some ⟨h.next, 0, none⟩) 1 1) = some 1 := rfl
    simp [f14B, piece, sel, sub, Tryz.f14, t1, t2, t4, t6, t7, hb, c0, hi, e2, c, c', hl, e, condK_if]
    exact ⟨k1, hn', g0, g1, by simp [t1], by simp [t2], by simp [t4], v', by simp, hv', fun b hb => by
      rcases hy' b hb with q | q
      · exact hv2 b q
      · simp at q; omega⟩
theorem f14_loop_end (hi : p.goals.length ≤ i) :
    EndsAs (fun _ _ => False) (fun _ _ => False) (fun j tm' h' => j = 0 ∧ FoSt p k L tm' h') (runCode TT ev ⟨14, none⟩ f14B ⟨tm, [], h, none⟩) := by
  obtain ⟨hb, hn, c0, c1, t1, t2, t4, v, t6, hv, hv2⟩ := st
  have hi' : ¬ i < p.goals.length := by omega
  simp [f14B, piece, sel, sub, Tryz.f14, t2, t7, hb, c0, hi', condK_if]
  exact ⟨hb, hn, c0, c1, by simp [t1], by simp [t2], by simp [t4], v, by simp [t6], hv, hv2⟩
end
end Go.Proofs.YtkdfgoimgcegfaaGreatDoor
/- Layer 35: Focus of the reference, exactly. -/
namespace Go.Am.Eu
open Go Go.Am
def foOk (p : Proof) (k : Int) : Prop := 0 ≤ k ∧ k.toNat < p.goals.length
open Classical in
noncomputable def foP (p : Proof) (k : Int) : Proof := if h : foOk p k then { p with goals := p.goals[k.toNat]'h.2 :: p.goals.eraseIdx k.toNat } else zeroP
open Classical in
noncomputable def foE (p : Proof) (k : Int) : Int := if foOk p k then 0 else 2
theorem erase_step (l : List Goal) (k i : Nat) (hi : i < l.length) : (l.take (i + 1)).eraseIdx k = if i = k then (l.take i).eraseIdx k else (l.take i).eraseIdx k ++ [l[i]] := by
  have hl : (l.take i).length = i := by simp; omega
  rw [List.take_succ_eq_append_getElem hi]
  by_cases c : i = k
  · rw [if_pos c]
    subst c
    rw [List.eraseIdx_append_of_length_le (by omega), hl, Nat.sub_self]
    show List.take i l ++ [] = _
    rw [List.append_nil]
    exact (List.eraseIdx_of_length_le (by omega)).symm
  · rw [if_neg c]
    by_cases h : k < i
    · rw [List.eraseIdx_append_of_lt_length (by omega)]
    · rw [List.eraseIdx_of_length_le (l := l.take i) (by omega), List.eraseIdx_of_length_le (by simp; omega)]
end Go.Am.Eu
namespace Go.Proofs.YtkdfgoimgcegfaaGreatDoor
open Go Go.Am Go.Proofs Go.Am.Sym Go.Am.Eu
set_option maxRecDepth 10000
def fpC (p : Proof) (v : Value) : List Value := strsV p.levels :: (sc p.store ++ (v :: (tc p.type ++ tc p.root)))
theorem s36 : Am.size TT 36 = some 1 := by kernel_rfl
theorem store36 (h : H) (p : Proof) (v : Value) (hv1 : cellsL v = [v]) (hv2 : oneCells [v] = true) {e : TypeId} {g : Bool} (hg : h.get 0 = some (.cells (cellsL (proofV p)) e g)) : storeAt TT h 36 v (.pointer (some ⟨0, 5, none⟩)) = some (h.put 0 (.cells (fpC p v) e g)) := by
  rw [storeAt_ptr (v := v) (n := 1) (c := cellsL (proofV p)) (e := e) (g := g) s36 (by rw [hv1]; rfl) (by rw [hv1]; exact hv2) hg (by show 6 ≤ 16; omega), hv1]
  rfl
/-- How Focus ends. -/
def FoR (p : Proof) (k : Int) (tm : Tr Value) (h : H) : Prop := ∃ c g, tm.get 4 = some (.pointer (some ⟨1, 0, none⟩)) ∧ tm.get 5 = some (i64 (foE p k)) ∧ h.base = 0 ∧ h.get 1 = some (.cells c 38 g) ∧ c.length = 16 ∧ DatV h.get (.agg ⟨c⟩) (proofV (foP p k))
theorem dat_fp {g : Nat → Option AObj} {p : Proof} {v : Value} {L : List Goal} (h : DatV g v (goalsV L)) : DatV g (.agg ⟨fpC p v⟩) (proofV { p with goals := L }) :=
  .agg (.cons (.pure (strsV_pure _)) (.cons (.pure (metasV_pure _)) (.cons (.pure (eqnsV_pure _)) (.cons (.pure (boundsV_pure _)) (.cons (.pure (.ground rfl)) (.cons h (DatL.pure ((tc_pure _).append (tc_pure _)))))))))
theorem focus14 : FnC TT Tryz.prog 14 (fun x : Proof × Int => x.1.goals.length < lim) (fun x => [proofV x.1, i64 x.2]) (fun x => .tuple ⟨[proofV (foP x.1 x.2), i64 (foE x.1 x.2)]⟩) := by
  rintro ⟨p, k⟩ hx h
  have hx : p.goals.length < lim := hx
  unfold lim at hx
  have key : EndsAs (fun _ _ => False) (FoR p k) (fun _ _ _ => False) (runCode TT (evK TT noC (1000000000 + 1)) ⟨14, none⟩ (.seq (piece Tryz.f14 [false]) (.seq (piece Tryz.f14 [true,false]) (.seq (piece Tryz.f14 [true,true,false]) (.seq (.seq (piece Tryz.f14 [true,true,true,false,false]) (.block 0 (.loop f14B))) (.seq (piece Tryz.f14 [true,true,true,true,false]) (piece Tryz.f14 [true,true,true,true,true])))))) ⟨initT [proofV p, i64 k] 0 .nil, [], H.empty, none⟩) := by
    generalize hM : 1000000000 + 1 = M
    have p0 : EndsAs (fun tm h => h = (H.empty.new (.cells (cellsL (proofV p)) 38 false)).new (.cells zp 38 false) ∧ tm.get 1 = some (i64 k) ∧ tm.get 2 = some (.pointer (some ⟨0, 0, none⟩)) ∧ tm.get 4 = some (.pointer (some ⟨1, 0, none⟩))) (fun _ _ => False) (fun _ _ _ => False) (runCode TT (evK TT noC M) ⟨14, none⟩ (piece Tryz.f14 [false]) ⟨initT [proofV p, i64 k] 0 .nil, [], H.empty, none⟩) := by
      simp [piece, sel, sub, Tryz.f14]
    have p1 : ∀ tm h, (h = (H.empty.new (.cells (cellsL (proofV p)) 38 false)).new (.cells zp 38 false) ∧ tm.get 1 = some (i64 k) ∧ tm.get 2 = some (.pointer (some ⟨0, 0, none⟩)) ∧ tm.get 4 = some (.pointer (some ⟨1, 0, none⟩))) → EndsAs (fun tm h => foOk p k ∧ h = (H.empty.new (.cells (cellsL (proofV p)) 38 false)).new (.cells zp 38 false) ∧ tm.get 1 = some (i64 k) ∧ tm.get 2 = some (.pointer (some ⟨0, 0, none⟩)) ∧ tm.get 4 = some (.pointer (some ⟨1, 0, none⟩))) (FoR p k) (fun _ _ _ => False)
        (runCode TT (evK TT noC M) ⟨14, none⟩ (piece Tryz.f14 [true,false]) ⟨tm, [], h, none⟩) := by
      rintro tm h ⟨rfl, t1, t2, t4⟩
      have hs := store38 ((H.empty.new (.cells (cellsL (proofV p)) 38 false)).new (.cells zp 38 false)) 1 zp rfl rfl (c0 := zp) (e := 38) (g := false) (by simp) rfl
      have bad : ¬ foOk p k → foP p k = zeroP ∧ foE p k = 2 := fun h => ⟨by unfold foP; rw [dif_neg h], by unfold foE; rw [if_neg h]⟩
      by_cases c1 : k < 0
      · obtain ⟨hP, hE⟩ := bad fun h => by have := h.1; omega
        simp [piece, sel, sub, Tryz.f14, t1, t2, t4, c1, hs, condK_if]
        exact ⟨zp, false, by simp [t4], by simp [hE], by simp, by simp, rfl, by rw [hP]; exact dat_zp _⟩
      · by_cases c2 : ((p.goals.length : Nat) : Int) ≤ k
        · obtain ⟨hP, hE⟩ := bad fun h => by have := h.2; omega
          simp [piece, sel, sub, Tryz.f14, t1, t2, t4, c1, c2, hs, condK_if]
          exact ⟨zp, false, by simp [t4], by simp [hE], by simp, by simp, rfl, by rw [hP]; exact dat_zp _⟩
        · simp [piece, sel, sub, Tryz.f14, t1, t2, t4, c1, c2, condK_if]
          exact ⟨by omega, by omega⟩
    refine ends_seqC (p0.mono (fun _ _ q => q) (fun _ _ q => q.elim) (fun _ _ _ q => q)) fun tm h q => ends_seqC (p1 tm h q) ?_
    rintro tm h ⟨ok, rfl, t1, t2, t4⟩
    obtain ⟨n, rfl⟩ : ∃ n : Nat, k = n := ⟨k.toNat, by have := ok.1; omega⟩
    have hn : n < p.goals.length := by simpa using ok.2
    have p2 : EndsAs (fun tm h => FoSt p n [p.goals[n]] tm h) (fun _ _ => False) (fun _ _ _ => False) (runCode TT (evK TT noC M) ⟨14, none⟩ (piece Tryz.f14 [true,true,false]) ⟨tm, [], (H.empty.new (.cells (cellsL (proofV p)) 38 false)).new (.cells zp 38 false), none⟩) := by
      simp [piece, sel, sub, Tryz.f14, t1, t2, hn]
      exact ⟨by simp, by simp, by simp, by simp, by simp [t1], by simp [t2], by simp [t4], _, by simp, ⟨2, false, by simp, rfl, by simp [gcs_one]⟩, fun b hb => by simp [blkOf] at hb; omega⟩
    have p3 : ∀ tm h, FoSt p n [p.goals[n]] tm h → EndsAs (fun tm h => FoSt p n [p.goals[n]] tm h ∧ tm.get 7 = some (i64 (0 : Nat))) (fun _ _ => False) (fun _ _ _ => False) (runCode TT (evK TT noC M) ⟨14, none⟩ (piece Tryz.f14 [true,true,true,false,false]) ⟨tm, [], h, none⟩) := by
      rintro tm h ⟨hb, hn, c0, c1, t1, t2, t4, v, t6, hv, hv2⟩
      simp [piece, sel, sub, Tryz.f14]
      exact ⟨hb, hn, c0, c1, by simp [t1], by simp [t2], by simp [t4], v, by simp [t6], hv, hv2⟩
    refine ends_seqC (p2.mono (fun _ _ q => q) (fun _ _ q => q.elim) (fun _ _ _ q => q)) fun tm h q => ends_seqC (N' := fun tm h => FoSt p n (p.goals[n] :: p.goals.eraseIdx n) tm h) (ends_seqC ((p3 tm h q).mono (fun _ _ q => q) (fun _ _ q => q.elim) (fun _ _ _ q => q)) fun tm h q => ?_) fun tm h q => ?_
    · refine ends_loop 0 (fun j tm h => ∃ i, j = p.goals.length - i ∧ i ≤ p.goals.length ∧ FoSt p n (p.goals[n] :: (p.goals.take i).eraseIdx n) tm h ∧ tm.get 7 = some (i64 (i : Nat))) p.goals.length ⟨0, rfl, by omega, by simpa using q.1, q.2⟩ (by omega) ?_
      rintro j tm h m ⟨i, rfl, hi, st, t7⟩ -
      by_cases hlt : i < p.goals.length
      · have hlen : (p.goals[n] :: (p.goals.take i).eraseIdx n).length + 1 ≤ 1073741824 := by
          have : ((p.goals.take i).eraseIdx n).length ≤ (p.goals.take i).length := List.length_eraseIdx_le ..
          simp at this ⊢; omega
        refine (f14_iter st t7 hlt (by unfold big; omega) hlen).mono (fun tm' h' q => ⟨_, by omega, i + 1, rfl, hlt, ?_, q.2⟩) (fun _ _ q => q.elim) (fun _ _ _ q => q.elim)
        rw [erase_step _ _ _ hlt]
        have q1 := q.1
        split at q1
        · rename_i e; rw [if_pos e]; exact q1
        · rename_i e; rw [if_neg e]; exact q1
      · have e : i = p.goals.length := by omega
        rw [e, List.take_length] at st
        exact (f14_loop_end st t7 (by omega)).mono (fun _ _ q => q.elim) (fun _ _ q => q.elim) (fun _ _ _ q => q)
    · obtain ⟨hb, hn', c0, c1, t1, t2, t4, v, t6, hv, hv2⟩ := q
      have hP : foP p n = { p with goals := p.goals[n] :: p.goals.eraseIdx n } := by unfold foP; rw [dif_pos ok]; rfl
      have hE : foE p n = 0 := by unfold foE; rw [if_pos ok]
      obtain ⟨b, gr, hbn, rfl, hg⟩ := hv
      have hb2 := hv2 b rfl
      have s1 := store36 h p (.slice (some ⟨b, 0, none⟩) (p.goals[n] :: p.goals.eraseIdx n).length (p.goals[n] :: p.goals.eraseIdx n).length) rfl rfl c0
      have s2 := store38 (h.put 0 (.cells (fpC p (.slice (some ⟨b, 0, none⟩) (p.goals[n] :: p.goals.eraseIdx n).length (p.goals[n] :: p.goals.eraseIdx n).length)) 38 false)) 1 (fpC p (.slice (some ⟨b, 0, none⟩) (p.goals[n] :: p.goals.eraseIdx n).length (p.goals[n] :: p.goals.eraseIdx n).length)) rfl rfl (c0 := zp) (e := 38) (g := false) (by simp [c1]) rfl
      have hp := p38_at (fpC p (.slice (some ⟨b, 0, none⟩) (p.goals[n] :: p.goals.eraseIdx n).length (p.goals[n] :: p.goals.eraseIdx n).length)) rfl
      have hd : DatV ((h.put 0 (.cells (fpC p (.slice (some ⟨b, 0, none⟩) (p.goals[n] :: p.goals.eraseIdx n).length (p.goals[n] :: p.goals.eraseIdx n).length)) 38 false)).put 1 (.cells (fpC p (.slice (some ⟨b, 0, none⟩) (p.goals[n] :: p.goals.eraseIdx n).length (p.goals[n] :: p.goals.eraseIdx n).length)) 38 false)).get
          (.slice (some ⟨b, 0, none⟩) (p.goals[n] :: p.goals.eraseIdx n).length (p.goals[n] :: p.goals.eraseIdx n).length) (goalsV (p.goals[n] :: p.goals.eraseIdx n)) := by
        have q0 : ¬ b = 0 := by omega
        have q1 : ¬ b = 1 := by omega
        exact GoA.dat ⟨b, gr, by simp [hbn], rfl, by simp [q0, q1, hg]⟩
      generalize (p.goals[n] :: p.goals.eraseIdx n).length = N at s1 s2 hp hd t6
      simp [piece, sel, sub, Tryz.f14, t2, t4, t6, hb, c0, s1, s2, hp]
      exact ⟨fpC p (.slice (some ⟨b, 0, none⟩) N N), false, by simp [t4], by simp [hE], by simp [hb], by simp, rfl, by rw [hP]; exact dat_fp hd⟩
  rcases key.cases with ⟨_, _, _, q⟩ | ⟨tm, m, e, c, gg, t4, t5, hb0, hc, hl, hd⟩ | ⟨_, _, _, _, q⟩
  · cases q
  · refine fnC_of (v := .tuple ⟨[.agg ⟨c⟩, i64 (foE p k)]⟩) (h1 := m) tok noC noC_sound (.cons (proofV_pure _) (.cons (.ground rfl) .nil)) (1000000000 + 1) ?_ (.tuple (.cons hd (.cons (.pure (.ground rfl)) .nil))) h
    rw [fn_run (vs := [.agg ⟨c⟩, i64 (foE p k)]) (h2 := m) (ab := none) TT.f14 f14_split rfl (by rw [e]; simp [t4, t5, hc, hb0, p38_at c hl])]
    rfl
  · cases q
end Go.Proofs.YtkdfgoimgcegfaaGreatDoor
