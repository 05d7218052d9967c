/- Layer 35: the law GoalsStarts, on data. -/
import Derived.Test.YtkdfgoimgcegfaaGreatDoorE35v
import Derived.Test.YtkdfgoimgcegfaaGreatDoorE35t
import Derived.Test.YtkdfgoimgcegfaaGreatDoorG35v
set_option linter.unusedSectionVars false
set_option linter.unusedSimpArgs false
set_option linter.unusedVariables false
namespace Go.Am.Eu
open Go Go.Am
theorem wt_k (k : Int) : wt (.mk k 0 ⟨#[]⟩ [] []) = 1 := by
  rw [wt_mk]; simp only [lvlsN, wtL, List.map_nil, List.sum_nil]; rfl
theorem zt_wt : wt zt = 1 := wt_k 0
theorem zeroP_ok {N : Nat} (hN : 1 < N) : zeroP.ok N := by
  have h1 : wt zt < N := by rw [zt_wt]; exact hN
  have h0 : 0 < N := by omega
  exact ⟨h0, ⟨⟨h0, fun y hy => by cases hy⟩, ⟨h0, fun y hy => by cases hy⟩, h0, fun y hy => by cases hy⟩, ⟨h0, fun y hy => by cases hy⟩, h1, h1⟩
theorem startP_ok {N : Nat} {ls : List ByteArray} {t : Term} (hN : 1 < N) (hl : ls.length < N) (ht : wt t < N) : (startP ls t).ok N := by
  have h1 : wt zt < N := by rw [zt_wt]; exact hN
  have h0 : 0 < N := by omega
  refine ⟨hl, ⟨⟨hN, fun y hy => ?_⟩, ⟨h0, fun y hy => by cases hy⟩, h0, fun y hy => by cases hy⟩, ⟨hN, fun y hy => ?_⟩, ht, ?_⟩
  · simp [startP] at hy; subst hy; exact ⟨ht, h1⟩
  · simp [startP] at hy; subst hy; exact ⟨h0, ⟨h0, fun y hy => by cases hy⟩, ht⟩
  · show wt (.mk 12 0 ⟨#[]⟩ [] []) < N
    rw [wt_k]; exact hN
end Go.Am.Eu
namespace Go.Proofs.YtkdfgoimgcegfaaGreatDoor
open Go Go.Am Go.Proofs Go.Am.Sym Go.Am.Eu
set_option maxRecDepth 10000
theorem TT.f3 : TT.func 3 = some Tryz.f3 := by kernel_rfl
@[simp] theorem p38_proof (x : Proof) : partOf TT 38 (cellsL (proofV x)) 0 = some (proofV x) := p38_at (pc x) rfl
theorem store38p (h : H) (b : Nat) (x : Proof) {c0 : List Value} {e : TypeId} {g : Bool} (hg : h.get b = some (.cells c0 e g)) (h0 : c0.length = 16) : storeAt TT h 38 (proofV x) (.pointer (some ⟨b, 0, none⟩)) = some (h.put b (.cells (cellsL (proofV x)) e g)) :=
  store38 h b (pc x) rfl rfl hg h0
def LawPre (x : StArg) : Prop := x.1.l.length < 1000000000 ∧ wt x.2 < 1000000000
theorem law_run (aw : FnC TT Tryz.prog 8 (fun _ : Unit => True) (fun _ => []) (fun _ => .bool true)) (x : StArg) (hx : LawPre x) :
    ∃ C n h, ConS TT Tryz.prog C ∧ callFn TT (evK TT C n) 3 (encS x) H.empty none (TT.func 3) = .ret (.bool true) h none := by
  obtain ⟨hl, ht⟩ := hx
  have htb : wt x.2 < big := by unfold big; omega
  have hnb := nodes_le x.2
  obtain ⟨f5, h5⟩ := contains5
  have hok : stOk x := ⟨hl, htb⟩
  have hP : (stP x).ok big := by
    unfold stP
    split
    · exact zeroP_ok (by unfold big; omega)
    · exact startP_ok (by unfold big; omega) (by unfold big; omega) htb
  have hl5 : x.1.l.length < big := by unfold big; omega
  obtain ⟨C, hC, H5, H7, H8, H9, H10, H11⟩ : ∃ C, ConS TT Tryz.prog C ∧ Has C 5 (fun _ : Unit => True) (fun _ => [sV x.1, f6V]) (fun _ => .bool (f5 x.1)) ∧ Has C 7 (fun t : Term => nodes t ≤ big) (fun y => [tv y]) (fun y => i64 (nodes y)) ∧
      Has C 8 (fun _ : Unit => True) (fun _ => []) (fun _ => .bool true) ∧ Has C 9 stOk encS (fun x => .tuple ⟨[proofV (stP x), i64 (stE x)]⟩) ∧ Has C 10 stOk encS (fun x => .tuple ⟨[proofV (stP x), i64 (stE x)]⟩) ∧ Has C 11 (fun x : Proof => x.ok big) (fun x => [proofV x, proofV x]) (fun _ => .bool true) := by
    have stinj : ∀ {x y : StArg}, encS x = encS y → stE x = stE y ∧ stP x = stP y := fun {x y} e => by
      obtain ⟨e1, e2⟩ := encS_inj e
      have hE : stE x = stE y := by unfold stE; rw [e1, e2]
      exact ⟨hE, by unfold stP; rw [hE, e1, e2]⟩
    refine ⟨_, addC_sound (addC_sound (addC_sound (addC_sound (addC_sound (addC_sound noC_sound (fun _ _ h => h5 x.1 hl5 h)) nodes_fn) aw) start9) start10) same11,
      .skip (by decide) (.skip (by decide) (.skip (by decide) (.skip (by decide) (.skip (by decide) (.add fun x y e => rfl))))),
      .skip (by decide) (.skip (by decide) (.skip (by decide) (.skip (by decide) (.add fun x y e => by simp at e; rw [tv_inj e])))),
      .skip (by decide) (.skip (by decide) (.skip (by decide) (.add fun x y e => rfl))),
      .skip (by decide) (.skip (by decide) (.add fun x y e => by rw [(stinj e).1, (stinj e).2])),
      .skip (by decide) (.add fun x y e => by rw [(stinj e).1, (stinj e).2]), Has.same⟩
  have e5 := fun n m => H5.ev (T := TT) n (x := ()) trivial m
  have e7 := fun n m => H7.ev (T := TT) n (x := x.2) (by omega) m
  have e8 := fun n m => H8.ev (T := TT) n (x := ()) trivial m
  have e9 := fun n m => H9.ev (T := TT) n (x := x) hok m
  have e10 := fun n m => H10.ev (T := TT) n (x := x) hok m
  have e11 := fun n m => H11.ev (T := TT) n (x := stP x) hP m
  generalize stP x = p at e9 e10 e11
  generalize stE x = ee at e9 e10
  generalize f5 x.1 = b5 at e5
  have key : EndsAs (fun tm _ => ∃ v, tm.get 4 = some (.bool v) ∧ v = true) (fun tm _ => ∃ v, tm.get 4 = some (.bool v) ∧ v = true) (fun _ _ _ => False) (runCode TT (evK TT C 3) ⟨3, none⟩ (Tryz.f3.body.getD .skip) ⟨initT (encS x) 0 .nil, [], H.empty, none⟩) := by
    have s1 := store38p ((H.empty.new (.cells (cellsL (tv x.2)) 26 false)).new (.cells zp 38 false)) 1 p (c0 := zp) (e := 38) (g := false) (by simp) rfl
    have s2 := store38p ((((H.empty.new (.cells (cellsL (tv x.2)) 26 false)).new (.cells zp 38 false)).put 1 (.cells (cellsL (proofV p)) 38 false)).new (.cells zp 38 false)) 2 p (c0 := zp) (e := 38) (g := false) (by simp) rfl
    simp +contextual [Tryz.f3, condK_if, e5, e7, e8, e9, e10, e11, s1, s2]
    repeat' (first | split | simp +contextual [condK_if, e5, e7, e8, e9, e10, e11, s1, s2, *])
  have fin : ∀ tm h, tm.get 4 = some (.bool true) → Am.results TT tm Tryz.f3.results.toList h = .ok [.bool true] h := fun tm h q => by simp [Tryz.f3, q]
  rcases key.cases with ⟨tm, h', e, v, q, rfl⟩ | ⟨tm, h', e, v, q, rfl⟩ | ⟨_, _, _, _, q⟩
  · exact ⟨C, 3, h', hC, by rw [fn_run (c := Tryz.f3.body.getD .skip) (vs := [.bool true]) (h2 := h') (ab := none) TT.f3 rfl rfl (by rw [e]; exact ⟨rfl, fin _ _ q⟩)]; rfl⟩
  · exact ⟨C, 3, h', hC, by rw [fn_run (c := Tryz.f3.body.getD .skip) (vs := [.bool true]) (h2 := h') (ab := none) TT.f3 rfl rfl (by rw [e]; exact ⟨rfl, fin _ _ q⟩)]; rfl⟩
  · cases q
end Go.Proofs.YtkdfgoimgcegfaaGreatDoor
/- Layer 35: the law GoalsFocuses, on data. -/
namespace Go.Am.Eu
open Go Go.Am
theorem foP_yes {p : Proof} {k : Int} (ok : foOk p k) : foP p k = { p with goals := p.goals[k.toNat]'ok.2 :: p.goals.eraseIdx k.toNat } := by unfold foP; rw [dif_pos ok]
theorem foP_no {p : Proof} {k : Int} (ok : ¬ foOk p k) : foP p k = zeroP := by unfold foP; rw [dif_neg ok]
theorem fo_len {p : Proof} {k : Int} (ok : foOk p k) : (p.goals[k.toNat]'ok.2 :: p.goals.eraseIdx k.toNat).length = p.goals.length := by
  rw [List.length_cons, List.length_eraseIdx_of_lt ok.2]; have := ok.2; omega
theorem foP_ok {p : Proof} {k : Int} {N : Nat} (hN : 1 < N) (h : p.ok N) : (foP p k).ok N := by
  by_cases ok : foOk p k
  · rw [foP_yes ok]
    obtain ⟨h1, h2, ⟨g1, g2⟩, t1, r1⟩ := h
    refine ⟨h1, h2, ⟨by rw [fo_len ok]; exact g1, fun y hy => ?_⟩, t1, r1⟩
    rcases List.mem_cons.1 hy with rfl | hy
    · exact g2 _ (List.getElem_mem _)
    · exact g2 _ (List.mem_of_mem_eraseIdx hy)
  · rw [foP_no ok]; exact zeroP_ok hN
theorem foP_len {p : Proof} {k : Int} {N : Nat} (h : p.goals.length < N) : (foP p k).goals.length < N := by
  by_cases ok : foOk p k
  · rw [foP_yes ok, fo_len ok]; exact h
  · rw [foP_no ok]; show 0 < N; omega
theorem foP_back {p : Proof} {k : Int} (h : foE p k = 0) : foE (foP p k) 0 = 0 ∧ foP (foP p k) 0 = foP p k := by
  have ok : foOk p k := Classical.byContradiction fun c => by unfold foE at h; rw [if_neg c] at h; cases h
  have e := foP_yes ok
  generalize foP p k = q at *
  subst e
  have ok2 : foOk { p with goals := p.goals[k.toNat]'ok.2 :: p.goals.eraseIdx k.toNat } 0 := ⟨by omega, by rw [fo_len ok]; show 0 < _; have := ok.2; omega⟩
  refine ⟨by unfold foE; rw [if_pos ok2], ?_⟩
  rw [foP_yes ok2]; rfl
end Go.Am.Eu
namespace Go.Proofs.YtkdfgoimgcegfaaGreatDoor
open Go Go.Am Go.Proofs Go.Am.Sym Go.Am.Eu
set_option maxRecDepth 10000
theorem ok_of {p : Proof} (h : proofOk p) : p.ok big := by
  obtain ⟨h1, ⟨⟨m1, m2⟩, ⟨e1, e2⟩, ⟨b1, b2⟩⟩, ⟨g1, g2⟩, t1, r1⟩ := h
  have hb : lim ≤ big := by unfold big lim; omega
  refine ⟨by omega, ⟨⟨by omega, fun y hy => ?_⟩, ⟨by omega, fun y hy => ?_⟩, ⟨by omega, fun y hy => ?_⟩⟩, ⟨by omega, fun y hy => ?_⟩, by omega, by omega⟩
  · have := m2 y hy; exact ⟨by omega, by omega⟩
  · obtain ⟨q1, q2⟩ := e2 y hy
    exact ⟨⟨by have := wtL_len y.ctx; omega, fun z hz => by have := wt_mem hz; omega⟩, by omega, by omega⟩
  · obtain ⟨q1, q2⟩ := b2 y hy; exact ⟨by omega, by omega⟩
  · obtain ⟨q1, q2⟩ := g2 y hy
    exact ⟨by omega, ⟨by have := wtL_len y.ctx; omega, fun z hz => by have := wt_mem hz; omega⟩, by omega⟩
theorem TT.f4 : TT.func 4 = some Tryz.f4 := by kernel_rfl
abbrev FoArg := Proof × Int
def FoArg.enc (x : FoArg) : List Value := [proofV x.1, i64 x.2]
theorem foEnc_inj {x y : FoArg} (h : FoArg.enc x = FoArg.enc y) : x = y := by
  obtain ⟨p, k⟩ := x; obtain ⟨q, j⟩ := y
  simp [FoArg.enc] at h
  rw [proofV_inj h.1, h.2]
theorem law36 (aw : FnC TT Tryz.prog 8 (fun _ : Unit => True) (fun _ => []) (fun _ => .bool true)) (x : FoArg) (hx : proofOk x.1) :
    ∃ C n h, ConS TT Tryz.prog C ∧ callFn TT (evK TT C n) 4 (FoArg.enc x) H.empty none (TT.func 4) = .ret (.bool true) h none := by
  obtain ⟨f12, h12⟩ := few12
  obtain ⟨C, hC, H8, H11, H12, H13, H14⟩ : ∃ C, ConS TT Tryz.prog C ∧ Has C 8 (fun _ : Unit => True) (fun _ => []) (fun _ => .bool true) ∧ Has C 11 (fun x : Proof => x.ok big) (fun x => [proofV x, proofV x]) (fun _ => .bool true) ∧
      Has C 12 proofOk (fun p => [sn, proofV p]) (fun x => .bool (f12 x)) ∧ Has C 13 (fun x : FoArg => x.1.goals.length < lim) FoArg.enc (fun x => .tuple ⟨[proofV (foP x.1 x.2), i64 (foE x.1 x.2)]⟩) ∧
      Has C 14 (fun x : FoArg => x.1.goals.length < lim) FoArg.enc (fun x => .tuple ⟨[proofV (foP x.1 x.2), i64 (foE x.1 x.2)]⟩) := by
    refine ⟨_, addC_sound (addC_sound (addC_sound (addC_sound (addC_sound noC_sound aw) h12) focus13) focus14) same11,
      .skip (by decide) (.skip (by decide) (.skip (by decide) (.skip (by decide) (.add fun x y e => rfl)))), Has.same,
      .skip (by decide) (.skip (by decide) (.skip (by decide) (.add fun x y e => by simp at e; rw [proofV_inj e]))),
      .skip (by decide) (.skip (by decide) (.add fun x y e => by rw [foEnc_inj e])),
      .skip (by decide) (.add fun x y e => by rw [foEnc_inj e])⟩
  have hok := ok_of hx
  have hlen : x.1.goals.length < lim := hx.2.2.1.1
  have hP := foP_ok (k := x.2) (by unfold big; omega) hok
  have e8 := fun n m => H8.ev (T := TT) n (x := ()) trivial m
  have e12 := fun n m => H12.ev (T := TT) n (x := x.1) hx m
  have e13 := fun n m => H13.ev (T := TT) n (x := x) hlen m
  have e14 := fun n m => H14.ev (T := TT) n (x := x) hlen m
  have e13' := fun n m => H13.ev (T := TT) n (x := (foP x.1 x.2, 0)) (foP_len hlen) m
  have e11 := fun n m => H11.ev (T := TT) n (x := foP x.1 x.2) hP m
  have hback := foP_back (p := x.1) (k := x.2)
  obtain ⟨p, k⟩ := x
  simp only [FoArg.enc] at *
  generalize foP p k = q at *
  generalize foE p k = e at *
  generalize f12 p = b12 at *
  have key : EndsAs (fun tm _ => ∃ v, tm.get 4 = some (.bool v) ∧ v = true) (fun tm _ => ∃ v, tm.get 4 = some (.bool v) ∧ v = true) (fun _ _ _ => False) (runCode TT (evK TT C 3) ⟨4, none⟩ (Tryz.f4.body.getD .skip) ⟨initT [proofV p, i64 k] 0 .nil, [], H.empty, none⟩) := by
    have s1 := store38p ((H.empty.new (.cells (cellsL (proofV p)) 38 false)).new (.cells zp 38 false)) 1 q (c0 := zp) (e := 38) (g := false) (by simp) rfl
    have s2 := store38p ((((H.empty.new (.cells (cellsL (proofV p)) 38 false)).new (.cells zp 38 false)).put 1 (.cells (cellsL (proofV q)) 38 false)).new (.cells zp 38 false)) 2 q (c0 := zp) (e := 38) (g := false) (by simp) rfl
    have s3 := store38p ((((((H.empty.new (.cells (cellsL (proofV p)) 38 false)).new (.cells zp 38 false)).put 1 (.cells (cellsL (proofV q)) 38 false)).new (.cells zp 38 false)).put 2 (.cells (cellsL (proofV q)) 38 false)).new (.cells zp 38 false)) 3 q (c0 := zp) (e := 38) (g := false) (by simp) rfl
    cases b12
    · simp [Tryz.f4, condK_if, e8, e12]
    · by_cases c : e = 0
      · obtain ⟨k1, k2⟩ := hback c
        rw [k1, k2] at e13'
        subst c
        simp [Tryz.f4, condK_if, e8, e12, e13, e14, e13', e11, s1, s2, s3]
      · simp [Tryz.f4, condK_if, e8, e12, e13, e14, e11, s1, s2, c]
  have fin : ∀ tm h, tm.get 4 = some (.bool true) → Am.results TT tm Tryz.f4.results.toList h = .ok [.bool true] h := fun tm h q => by simp [Tryz.f4, q]
  rcases key.cases with ⟨tm, h', e, v, q, rfl⟩ | ⟨tm, h', e, v, q, rfl⟩ | ⟨_, _, _, _, q⟩
  · exact ⟨C, 3, h', hC, by rw [fn_run (c := Tryz.f4.body.getD .skip) (vs := [.bool true]) (h2 := h') (ab := none) TT.f4 rfl rfl (by rw [e]; exact ⟨rfl, fin _ _ q⟩)]; rfl⟩
  · exact ⟨C, 3, h', hC, by rw [fn_run (c := Tryz.f4.body.getD .skip) (vs := [.bool true]) (h2 := h') (ab := none) TT.f4 rfl rfl (by rw [e]; exact ⟨rfl, fin _ _ q⟩)]; rfl⟩
  · cases q
end Go.Proofs.YtkdfgoimgcegfaaGreatDoor
