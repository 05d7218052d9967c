/- Layer 35: the law GoalsStarts, on data. -/
import Derived.Test.YtkdfgoimgcegfaaGreatDoorE35v
import Derived.Test.YtkdfgoimgcegfaaGreatDoorE35t
set_option linter.unusedSectionVars false
set_option linter.unusedSimpArgs false
set_option linter.unusedVariables false
namespace Go.Am.Eu
open Go Go.Am
theorem wt_k (k : Int) : wt (.mk k 0 ⟨#[]⟩ [] []) = 1 := by
  rw [wt_mk]; simp only [lvlsN, wtL, List.map_nil, List.sum_nil]; rfl
theorem zt_wt : wt zt = 1 := wt_k 0
theorem zeroP_ok {N : Nat} (hN : 1 < N) : zeroP.ok N := by
  have h1 : wt zt < N := by rw [zt_wt]; exact hN
  have h0 : 0 < N := by omega
  exact ⟨h0, ⟨⟨h0, fun y hy => by cases hy⟩, ⟨h0, fun y hy => by cases hy⟩, h0, fun y hy => by cases hy⟩, ⟨h0, fun y hy => by cases hy⟩, h1, h1⟩
theorem startP_ok {N : Nat} {ls : List ByteArray} {t : Term} (hN : 1 < N) (hl : ls.length < N) (ht : wt t < N) : (startP ls t).ok N := by
  have h1 : wt zt < N := by rw [zt_wt]; exact hN
  have h0 : 0 < N := by omega
  refine ⟨hl, ⟨⟨hN, fun y hy => ?_⟩, ⟨h0, fun y hy => by cases hy⟩, h0, fun y hy => by cases hy⟩, ⟨hN, fun y hy => ?_⟩, ht, ?_⟩
  · simp [startP] at hy; subst hy; exact ⟨ht, h1⟩
  · simp [startP] at hy; subst hy; exact ⟨h0, ⟨h0, fun y hy => by cases hy⟩, ht⟩
  · show wt (.mk 12 0 ⟨#[]⟩ [] []) < N
    rw [wt_k]; exact hN
end Go.Am.Eu
namespace Go.Proofs.YtkdfgoimgcegfaaGreatDoor
open Go Go.Am Go.Proofs Go.Am.Sym Go.Am.Eu
set_option maxRecDepth 10000
theorem TT.f3 : TT.func 3 = some Tryz.f3 := by kernel_rfl
@[simp] theorem p38_proof (x : Proof) : partOf TT 38 (cellsL (proofV x)) 0 = some (proofV x) := p38_at (pc x) rfl
theorem store38p (h : H) (b : Nat) (x : Proof) {c0 : List Value} {e : TypeId} {g : Bool} (hg : h.get b = some (.cells c0 e g)) (h0 : c0.length = 16) : storeAt TT h 38 (proofV x) (.pointer (some ⟨b, 0, none⟩)) = some (h.put b (.cells (cellsL (proofV x)) e g)) :=
  store38 h b (pc x) rfl rfl hg h0
def LawPre (x : StArg) : Prop := x.1.l.length < 1000000000 ∧ wt x.2 < 1000000000
theorem law_run (aw : FnC TT Tryz.prog 8 (fun _ : Unit => True) (fun _ => []) (fun _ => .bool true)) (x : StArg) (hx : LawPre x) :
    ∃ C n h, ConS TT Tryz.prog C ∧ callFn TT (evK TT C n) 3 (encS x) H.empty none (TT.func 3) = .ret (.bool true) h none := by
  obtain ⟨hl, ht⟩ := hx
  have htb : wt x.2 < big := by unfold big; omega
  have hnb := nodes_le x.2
  obtain ⟨f5, h5⟩ := contains5
  have hok : stOk x := ⟨hl, htb⟩
  have hP : (stP x).ok big := by
    unfold stP
    split
    · exact zeroP_ok (by unfold big; omega)
    · exact startP_ok (by unfold big; omega) (by unfold big; omega) htb
  have hl5 : x.1.l.length < big := by unfold big; omega
  obtain ⟨C, hC, H5, H7, H8, H9, H10, H11⟩ : ∃ C, ConS TT Tryz.prog C ∧ Has C 5 (fun _ : Unit => True) (fun _ => [sV x.1, f6V]) (fun _ => .bool (f5 x.1)) ∧ Has C 7 (fun t : Term => nodes t ≤ big) (fun y => [tv y]) (fun y => i64 (nodes y)) ∧
      Has C 8 (fun _ : Unit => True) (fun _ => []) (fun _ => .bool true) ∧ Has C 9 stOk encS (fun x => .tuple ⟨[proofV (stP x), i64 (stE x)]⟩) ∧ Has C 10 stOk encS (fun x => .tuple ⟨[proofV (stP x), i64 (stE x)]⟩) ∧ Has C 11 (fun x : Proof => x.ok big) (fun x => [proofV x, proofV x]) (fun _ => .bool true) := by
    have stinj : ∀ {x y : StArg}, encS x = encS y → stE x = stE y ∧ stP x = stP y := fun {x y} e => by
      obtain ⟨e1, e2⟩ := encS_inj e
      have hE : stE x = stE y := by unfold stE; rw [e1, e2]
      exact ⟨hE, by unfold stP; rw [hE, e1, e2]⟩
    refine ⟨_, addC_sound (addC_sound (addC_sound (addC_sound (addC_sound (addC_sound noC_sound (fun _ _ h => h5 x.1 hl5 h)) nodes_fn) aw) start9) start10) same11,
      .skip (by decide) (.skip (by decide) (.skip (by decide) (.skip (by decide) (.skip (by decide) (.add fun x y e => rfl))))),
      .skip (by decide) (.skip (by decide) (.skip (by decide) (.skip (by decide) (.add fun x y e => by simp at e; rw [tv_inj e])))),
      .skip (by decide) (.skip (by decide) (.skip (by decide) (.add fun x y e => rfl))),
      .skip (by decide) (.skip (by decide) (.add fun x y e => by rw [(stinj e).1, (stinj e).2])),
      .skip (by decide) (.add fun x y e => by rw [(stinj e).1, (stinj e).2]), Has.same⟩
  have e5 := fun n m => H5.ev (T := TT) n (x := ()) trivial m
  have e7 := fun n m => H7.ev (T := TT) n (x := x.2) (by omega) m
  have e8 := fun n m => H8.ev (T := TT) n (x := ()) trivial m
  have e9 := fun n m => H9.ev (T := TT) n (x := x) hok m
  have e10 := fun n m => H10.ev (T := TT) n (x := x) hok m
  have e11 := fun n m => H11.ev (T := TT) n (x := stP x) hP m
  generalize stP x = p at e9 e10 e11
  generalize stE x = ee at e9 e10
  generalize f5 x.1 = b5 at e5
  have key : EndsAs (fun tm _ => ∃ v, tm.get 4 = some (.bool v) ∧ v = true) (fun tm _ => ∃ v, tm.get 4 = some (.bool v) ∧ v = true) (fun _ _ _ => False) (runCode TT (evK TT C 3) ⟨3, none⟩ (Tryz.f3.body.getD .skip) ⟨initT (encS x) 0 .nil, [], H.empty, none⟩) := by
    have s1 := store38p ((H.empty.new (.cells (cellsL (tv x.2)) 26 false)).new (.cells zp 38 false)) 1 p (c0 := zp) (e := 38) (g := false) (by simp) rfl
    have s2 := store38p ((((H.empty.new (.cells (cellsL (tv x.2)) 26 false)).new (.cells zp 38 false)).put 1 (.cells (cellsL (proofV p)) 38 false)).new (.cells zp 38 false)) 2 p (c0 := zp) (e := 38) (g := false) (by simp) rfl
    simp +contextual [Tryz.f3, condK_if, e5, e7, e8, e9, e10, e11, s1, s2]
    repeat' (first | split | simp +contextual [condK_if, e5, e7, e8, e9, e10, e11, s1, s2, *])
  have fin : ∀ tm h, tm.get 4 = some (.bool true) → Am.results TT tm Tryz.f3.results.toList h = .ok [.bool true] h := fun tm h q => by simp [Tryz.f3, q]
  rcases key.cases with ⟨tm, h', e, v, q, rfl⟩ | ⟨tm, h', e, v, q, rfl⟩ | ⟨_, _, _, _, q⟩
  · exact ⟨C, 3, h', hC, by rw [fn_run (c := Tryz.f3.body.getD .skip) (vs := [.bool true]) (h2 := h') (ab := none) TT.f3 rfl rfl (by rw [e]; exact ⟨rfl, fin _ _ q⟩)]; rfl⟩
  · exact ⟨C, 3, h', hC, by rw [fn_run (c := Tryz.f3.body.getD .skip) (vs := [.bool true]) (h2 := h') (ab := none) TT.f3 rfl rfl (by rw [e]; exact ⟨rfl, fin _ _ q⟩)]; rfl⟩
  · cases q
end Go.Proofs.YtkdfgoimgcegfaaGreatDoor
